/- Any scheme in its plain form, its free names, closed, with new names, whether two are the same, contexts in order, names: the law answers true. No condition but what its row lists. -/
import Derived.Test.YtkcpkckaahmheaaDoorOtMl
import Derived.Test.YtkcpkckaahmheaaDoorAmG
import Derived.Test.YtkcpkckaahmheaaDoorAmM
import Derived.Test.YtkcpkckaahmheaaDoorRows
import Derived.Test.YtkcpkckaahmheaaDoorTie
import Derived.Test.YtkcpkckaahmheaaDoorCards
namespace Go.Proofs.YtkcpkckaahmheaaDoor
open Go.ChangeShapes Go.WideShapes Go.ChangeAt Go.RowKit Go.Am

theorem r_own : ownKnob Tryd.prog.godebug = none := by kernel_rfl
theorem r_laid : laidOutB Tryd.prog = true := by kernel_rfl
theorem r_mixed : Tryd.prog.follows .mixedOrders = true := Tryd.checked.mixed

noncomputable def r_L : List (String × DataW Unit) := [("math/bits.deBruijn32tab", Rows.laid_math_bits_deBruijn32tab), ("math/bits.deBruijn64tab", Rows.laid_math_bits_deBruijn64tab), ("internal/strconv.uint64pow10", Rows.laid_internal_strconv_uint64pow10)]

theorem r_met (os : Os) (args : Array Value) : laidMetH Tryd.prog r_L ((World.doorLaid Tryd.prog 24 os).forCall (fun _ _ => 0) ⟨#[], args, []⟩).memory :=
  laidMetH_of_parts3 (fuel := 8) (laidMet_of_run' 8 (by kernel_rfl) (by kernel_rfl)) (by kernel_rfl) (by kernel_rfl)

theorem r_gokE {W : World} (_ : laidMetH Tryd.prog r_L W) : GOk [] (gh0 W) W := gok_nil

theorem r_pow {W : World} (h : laidMetH Tryd.prog r_L W) : Lib.TabIs Tryd.prog W "internal/strconv.uint64pow10" .u64 Lib.pow10Tab := by
  have h1 := laidMetH.filter (fun x => x.1 == "internal/strconv.uint64pow10") h
  have e : r_L.filter (fun x => x.1 == "internal/strconv.uint64pow10") = [("internal/strconv.uint64pow10", Lib.tabData .u64 Lib.pow10Tab)] := by kernel_rfl
  rw [e, MakeChecks.laidMetH_plain _ _ _ (by kernel_rfl)] at h1
  exact Lib.tabIs_of_head (g := 1) (by kernel_rfl) (t := 115) (by kernel_rfl) Tryd.underlying115 Tryd.underlying109 (by kernel_rfl) (by kernel_rfl) h1

theorem r_gok {W : World} (h : laidMetH Tryd.prog r_L W) : GOk [2000001] (gh0 W) W := by
  refine GOk.more (KE := []) (KT := [2000001]) (r_gokE h) (by decide) (by decide) (fun g hl hg => ?_) (fun g hl hg => ?_)
  · simp only [List.mem_cons, List.not_mem_nil, or_false] at hg
    obtain rfl : g = 1 := by omega
    exact tabAt_pow (by kernel_rfl) (r_pow h)
  · simp only [List.mem_cons, List.not_mem_nil, or_false] at hg
    omega

set_option maxRecDepth 100000 in
theorem r_lifted (os : Os) (started : os.Started) (H : Type) (enc : TypeId × Value → H) :
    ReturnsInHanded {} Tryd.checked os 6 .any (fun w args => (Rows.schemeSaysSpec.pre enc Tryd.prog Tryd.f6 [] false w args ∧ laidMetH Tryd.prog r_L w) ∧ sizedMet enc Tryd.prog Tryd.f6 (OpenSpec.ofChange Rows.schemeSaysSpec) false w args)
      (Rows.schemeSaysSpec.post enc Tryd.prog Tryd.f6 false true false false) := by
  refine returnsInHanded_of_change_and (C := Tryd.checked) (X := fun w _ => laidMetH Tryd.prog r_L w) (fun _ _ _ hh h => h.of_heap hh) r_own started (by kernel_rfl) Tryd.func6
    (ChangeSpec.witness_shaped (enc := enc) (C := Tryd.checked) (os := os) (X := fun w _ => laidMetH Tryd.prog r_L w) false (World.doorLaid Tryd.prog 24 os) #[.slice none 0 0, .int .i64 0, .int .i64 0, .slice none 0 0] 8 rfl (World.shaped_of_RefB (by kernel_rfl) (by kernel_rfl)) (by kernel_rfl) (by kernel_rfl) (by kernel_rfl) (r_met os _)) ?_
  intro W base args ds gs before hval0 hW _ _ hL _
  have hval : ∀ (j : Nat) t v, Tryd.f6.params[j]? = some t → args[j]? = some v → Value.okWide Tryd.prog W .any base t v := hval0
  have hW' : DataW.Whole enc Tryd.prog Tryd.f6.params.toList Rows.schemeSaysSpec.vars false W args.toList ds gs before := hW
  obtain ⟨p, q, hA0, hV, rfl, hfz, hnd⟩ := hW
  have hA : DataW.TrodAll enc Tryd.prog W 0 (fun _ => true) true Tryd.f6.params.toList args.toList ds p := hA0
  rw [Tryd.params6] at hA hval
  obtain ⟨v0, v1, v2, v3, d0, d1, d2, d3, p0, p1, p2, p3, rfl, rfl, rfl, h0, h1, h2, h3⟩ := trodAll_four hA
  obtain ⟨a0, r0, l0, w0⟩ := arg_ints Tryd.underlying22 Tryd.underlying3 (by kernel_rfl) (hval 0 22 v0 rfl rfl) h0
  obtain ⟨a1, r1, l1⟩ := arg_int Tryd.underlying3 (hval 1 3 v1 rfl rfl) h1
  obtain ⟨a2, r2, l2⟩ := arg_int Tryd.underlying3 (hval 2 3 v2 rfl rfl) h2
  obtain ⟨a3, r3, l3⟩ := arg_strs Tryd.underlying40 Tryd.underlying9 (by kernel_rfl) (hval 3 40 v3 rfl rfl) h3
  have hargs : ArgsRel (gh0 W) W [.sl .frozen (a0.map (.int .i64)), .int .i64 a1, .int .i64 a2, .sl .frozen (a3.map .str)] #[v0, v1, v2, v3] := by
    refine ⟨rfl, rfl, fun i x u hx hu => ?_⟩
    match i with
    | 0 => cases hx; cases hu; exact r0
    | 1 => cases hx; cases hu; exact r1
    | 2 => cases hx; cases hu; exact r2
    | 3 => cases hx; cases hu; exact r3
    | i + 4 => simp at hx
  have hs : -9223372036854775808 ≤ a2 ∧ a2 < 9223372036854775808 := by
    have h2 : -9223372036854775808 ≤ a2 ∧ a2 ≤ 9223372036854775807 := by simpa [Lit.wf, IntKind.min, IntKind.max, IntKind.bits, IntKind.signed] using l2
    omega
  refine (entryG r_mixed Go.Ot.tableOk Tryd.func6 (by kernel_rfl) (by kernel_rfl) hargs (r_gok hL) (Go.Ot.schemeSays a0 a1 a2 a3 hs.1 hs.2)).mono ?_
  rintro e W' ⟨rfl, hb⟩
  refine ⟨_, rfl, post_true r_laid hW' hb (tb := 4) (by kernel_rfl) Tryd.underlying4 (by kernel_rfl) rfl ?_⟩
  rintro rfl
  exact ⟨rfl, rfl, rfl⟩

theorem scheme_says : Rows.SchemeSaysSaid :=
  OpenClaim.holds_of_wide 6 Tryd.f6 rfl rfl rfl rfl rfl rfl rfl ⟨rfl, rfl, rfl, rfl, rfl⟩ rfl rfl rfl rfl rfl (by kernel_rfl) Tryd.func6 (by kernel_rfl)
    (of_decide_eq_true (by kernel_rfl)) (by unfold Func.isWrapper; first | (rw [if_pos (by decide +kernel)]; kernel_rfl) | (rw [if_neg (by decide +kernel)]; exact ⟨rfl, rfl⟩))
    (fun os started H enc _ => r_lifted os started H enc)

theorem scheme_says_card : Rows.SchemeSaysCardSaid :=
  Claim7.holds_tied_plain_at .later [] [.data, .data, .data] true Rows.schemeSaysCard.stood.harness false
    scheme_says (fun _ h => by cases h) (by kernel_rfl) (fun _ h => by cases h) schemeSays_row_tie rfl ⟨rfl, rfl⟩ (by kernel_rfl) rfl
    (fun f fn hf hfn => by
      obtain rfl : f = 6 := Option.some.inj ((show Tryd.prog.funcNamed "paideia/paideialaw8.SchemeSays" = some 6 by kernel_rfl).symm.trans hf) |>.symm
      obtain rfl : fn = Tryd.f6 := (Option.some.inj (Tryd.func6.symm.trans hfn)).symm
      exact ⟨by kernel_rfl, fun j t ht => by
        rw [Tryd.params6] at ht
        rcases j with _ | _ | _ | _ | j
        · obtain rfl : t = 22 := by simpa using ht.symm
          exact (show Tryd.prog.wantsStandIn 22 = false by kernel_rfl)
        · obtain rfl : t = 3 := by simpa using ht.symm
          exact (show Tryd.prog.wantsStandIn 3 = false by kernel_rfl)
        · obtain rfl : t = 3 := by simpa using ht.symm
          exact (show Tryd.prog.wantsStandIn 3 = false by kernel_rfl)
        · obtain rfl : t = 40 := by simpa using ht.symm
          exact (show Tryd.prog.wantsStandIn 40 = false by kernel_rfl)
        · simp at ht⟩)
    (by kernel_rfl)

end Go.Proofs.YtkcpkckaahmheaaDoor
