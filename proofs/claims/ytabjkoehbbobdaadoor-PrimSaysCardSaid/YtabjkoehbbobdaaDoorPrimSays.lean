/- What any primitive comes to of any numbers, how any letter is written, is what the chapter says: the law answers true whatever the name, the two numbers and the letter are. No condition but what its row lists. -/
import Derived.Test.YtabjkoehbbobdaaDoorItO2
import Derived.Test.YtabjkoehbbobdaaDoorAmG
import Derived.Test.YtabjkoehbbobdaaDoorRows
import Derived.Test.YtabjkoehbbobdaaDoorTie
import Derived.Test.YtabjkoehbbobdaaDoorCards
namespace Go.Proofs.YtabjkoehbbobdaaDoor
open Go.ChangeShapes Go.WideShapes Go.ChangeAt Go.RowKit Go.Am

theorem ps_own : ownKnob Tryd.prog.godebug = none := by kernel_rfl
theorem ps_laid : laidOutB Tryd.prog = true := by kernel_rfl
theorem ps_mixed : Tryd.prog.follows .mixedOrders = true := Tryd.checked.mixed

noncomputable def threeT : List (String × DataW Unit) := [("math/bits.deBruijn32tab", Rows.laid_math_bits_deBruijn32tab), ("math/bits.deBruijn64tab", Rows.laid_math_bits_deBruijn64tab), ("internal/strconv.uint64pow10", Rows.laid_internal_strconv_uint64pow10)]

theorem threeT_met (os : Os) (args : Array Value) : laidMetH Tryd.prog threeT ((World.doorLaid Tryd.prog 309 os).forCall (fun _ _ => 0) ⟨#[], args, []⟩).memory :=
  laidMetH_of_parts3 (fuel := 8) (laidMet_of_run' 8 (by kernel_rfl) (by kernel_rfl)) (by kernel_rfl) (by kernel_rfl)

theorem ps_tab {W : World} (h : laidMetH Tryd.prog threeT W) : Lib.TabIs Tryd.prog W "internal/strconv.uint64pow10" .u64 Lib.pow10Tab := by
  have h1 := laidMetH.filter (fun x => x.1 == "internal/strconv.uint64pow10") h
  have e : threeT.filter (fun x => x.1 == "internal/strconv.uint64pow10") = [("internal/strconv.uint64pow10", Lib.tabData .u64 Lib.pow10Tab)] := by kernel_rfl
  rw [e, MakeChecks.laidMetH_plain _ _ _ (by kernel_rfl)] at h1
  exact Lib.tabIs_of_head (g := 2) (by kernel_rfl) (t := 137) (by kernel_rfl) Tryd.underlying137 Tryd.underlying121 (by kernel_rfl) (by kernel_rfl) h1

set_option maxRecDepth 100000 in
theorem ps_lifted (os : Os) (started : os.Started) (H : Type) (enc : TypeId × Value → H) :
    ReturnsInHanded {} Tryd.checked os 7 .any (fun w args => (Rows.primSaysSpec.pre enc Tryd.prog Tryd.f7 [] false w args ∧ laidMetH Tryd.prog threeT w) ∧ sizedMet enc Tryd.prog Tryd.f7 (OpenSpec.ofChange Rows.primSaysSpec) false w args)
      (Rows.primSaysSpec.post enc Tryd.prog Tryd.f7 false true false false) := by
  refine returnsInHanded_of_change_and (C := Tryd.checked) (X := fun w _ => laidMetH Tryd.prog threeT w) (fun _ _ _ hh h => h.of_heap hh) ps_own started (by kernel_rfl) Tryd.func7
    (ChangeSpec.witness_shaped (enc := enc) (C := Tryd.checked) (os := os) (X := fun w _ => laidMetH Tryd.prog threeT w) false (World.doorLaid Tryd.prog 309 os) #[.string ⟨#[]⟩, .int .i64 0, .int .i64 0, .int .u8 0] 8 rfl (World.shaped_of_RefB (by kernel_rfl) (by kernel_rfl)) (by kernel_rfl) (by kernel_rfl) (by kernel_rfl) (threeT_met os _)) ?_
  intro W base args ds gs before hval0 hW _ _ hL _
  have hval : ∀ (j : Nat) t v, Tryd.f7.params[j]? = some t → args[j]? = some v → Value.okWide Tryd.prog W .any base t v := hval0
  have hW' : DataW.Whole enc Tryd.prog Tryd.f7.params.toList Rows.primSaysSpec.vars false W args.toList ds gs before := hW
  obtain ⟨p, q, hA0, hV, rfl, hfz, hnd⟩ := hW
  have hA : DataW.TrodAll enc Tryd.prog W 0 (fun _ => true) true Tryd.f7.params.toList args.toList ds p := hA0
  rw [Tryd.params7] at hA hval
  obtain ⟨v0, v1, v2, v3, d0, d1, d2, d3, p0, p1, p2, p3, rfl, rfl, rfl, h0, h1, h2, h3⟩ := trodAll_four hA
  obtain ⟨n, rn, ln⟩ := arg_str Tryd.underlying9 (hval 0 9 v0 rfl rfl) h0
  obtain ⟨a, ra, la⟩ := arg_int Tryd.underlying2 (hval 1 2 v1 rfl rfl) h1
  obtain ⟨b, rb, lb⟩ := arg_int Tryd.underlying2 (hval 2 2 v2 rfl rfl) h2
  obtain ⟨c, rc, lc⟩ := arg_int Tryd.underlying5 (hval 3 5 v3 rfl rfl) h3
  have hargs : ArgsRel (gh0 W) W [.str n, .int .i64 a, .int .i64 b, .int .u8 c] #[v0, v1, v2, v3] := by
    refine ⟨rfl, rfl, fun i x u hx hu => ?_⟩
    match i with
    | 0 => cases hx; cases hu; exact rn
    | 1 => cases hx; cases hu; exact ra
    | 2 => cases hx; cases hu; exact rb
    | 3 => cases hx; cases hu; exact rc
    | i + 4 => simp at hx
  have hr : -9223372036854775808 ≤ a ∧ a < 9223372036854775808 := by
    have h2 : -9223372036854775808 ≤ a ∧ a ≤ 9223372036854775807 := by simpa [Lit.wf, IntKind.min, IntKind.max, IntKind.bits, IntKind.signed] using la
    omega
  have hs : 0 ≤ c ∧ c < 256 := by
    have h2 : 0 ≤ c ∧ c ≤ 255 := by simpa [Lit.wf, IntKind.min, IntKind.max, IntKind.bits, IntKind.signed] using lc
    omega
  refine (entryG ps_mixed It.tableOk Tryd.func7 (by kernel_rfl) (by kernel_rfl) hargs (gok_tab (g := 2) (by kernel_rfl) (ps_tab hL)) (It.lawS n a b c hr.1 hr.2 hs.1 hs.2)).mono ?_
  rintro e W' ⟨rfl, hb⟩
  refine ⟨_, rfl, post_true ps_laid hW' hb (tb := 4) (by kernel_rfl) Tryd.underlying4 (by kernel_rfl) rfl ?_⟩
  rintro rfl
  exact ⟨rfl, rfl, rfl⟩

theorem prim_says : Rows.PrimSaysSaid :=
  OpenClaim.holds_of_wide 7 Tryd.f7 rfl rfl rfl rfl rfl rfl rfl ⟨rfl, rfl, rfl, rfl, rfl⟩ rfl rfl rfl rfl rfl (by kernel_rfl) Tryd.func7 (by kernel_rfl)
    (of_decide_eq_true (by kernel_rfl)) (by unfold Func.isWrapper; first | (rw [if_pos (by decide +kernel)]; kernel_rfl) | (rw [if_neg (by decide +kernel)]; exact ⟨rfl, rfl⟩))
    (fun os started H enc _ => ps_lifted os started H enc)

theorem prim_says_card : Rows.PrimSaysCardSaid :=
  Claim7.holds_tied_plain_at .later [] [.data, .data, .data] true Rows.primSaysCard.stood.harness true
    prim_says (fun _ h => by cases h) (by kernel_rfl) (fun _ h => by cases h) primSays_row_tie rfl ⟨rfl, rfl⟩ (by kernel_rfl) rfl
    (fun f fn hf hfn => by
      obtain rfl : f = 7 := Option.some.inj ((show Tryd.prog.funcNamed "paideia/paideialaw23.PrimSays" = some 7 by kernel_rfl).symm.trans hf) |>.symm
      obtain rfl : fn = Tryd.f7 := (Option.some.inj (Tryd.func7.symm.trans hfn)).symm
      exact ⟨by kernel_rfl, fun j t ht => by
        rw [Tryd.params7] at ht
        rcases j with _ | _ | _ | _ | j
        · obtain rfl : t = 9 := by simpa using ht.symm
          exact (show Tryd.prog.wantsStandIn 9 = false by kernel_rfl)
        · obtain rfl : t = 2 := by simpa using ht.symm
          exact (show Tryd.prog.wantsStandIn 2 = false by kernel_rfl)
        · obtain rfl : t = 2 := by simpa using ht.symm
          exact (show Tryd.prog.wantsStandIn 2 = false by kernel_rfl)
        · obtain rfl : t = 5 := by simpa using ht.symm
          exact (show Tryd.prog.wantsStandIn 5 = false by kernel_rfl)
        · simp at ht⟩)
    (by kernel_rfl)

end Go.Proofs.YtabjkoehbbobdaaDoor
