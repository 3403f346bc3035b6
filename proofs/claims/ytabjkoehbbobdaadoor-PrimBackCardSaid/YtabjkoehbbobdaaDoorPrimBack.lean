/- A letter that is written is read as that letter; a number's digits as that number: the law answers true whatever the letter and the number are. No condition but what its row lists. -/
import Derived.Test.YtabjkoehbbobdaaDoorItO5
import Derived.Test.YtabjkoehbbobdaaDoorAmG
import Derived.Test.YtabjkoehbbobdaaDoorRows
import Derived.Test.YtabjkoehbbobdaaDoorTie
import Derived.Test.YtabjkoehbbobdaaDoorCards
namespace Go.Proofs.YtabjkoehbbobdaaDoor
open Go.ChangeShapes Go.WideShapes Go.ChangeAt Go.RowKit Go.Am

theorem pb_own : ownKnob Tryd.prog.godebug = none := by kernel_rfl
theorem pb_laid : laidOutB Tryd.prog = true := by kernel_rfl
theorem pb_mixed : Tryd.prog.follows .mixedOrders = true := Tryd.checked.mixed

noncomputable def threeT : List (String × DataW Unit) := [("math/bits.deBruijn32tab", Rows.laid_math_bits_deBruijn32tab), ("math/bits.deBruijn64tab", Rows.laid_math_bits_deBruijn64tab), ("internal/strconv.uint64pow10", Rows.laid_internal_strconv_uint64pow10)]

theorem threeT_met (os : Os) (args : Array Value) : laidMetH Tryd.prog threeT ((World.doorLaid Tryd.prog 309 os).forCall (fun _ _ => 0) ⟨#[], args, []⟩).memory :=
  laidMetH_of_parts3 (fuel := 8) (laidMet_of_run' 8 (by kernel_rfl) (by kernel_rfl)) (by kernel_rfl) (by kernel_rfl)

theorem pb_tab {W : World} (h : laidMetH Tryd.prog threeT W) : Lib.TabIs Tryd.prog W "internal/strconv.uint64pow10" .u64 Lib.pow10Tab := by
  have h1 := laidMetH.filter (fun x => x.1 == "internal/strconv.uint64pow10") h
  have e : threeT.filter (fun x => x.1 == "internal/strconv.uint64pow10") = [("internal/strconv.uint64pow10", Lib.tabData .u64 Lib.pow10Tab)] := by kernel_rfl
  rw [e, MakeChecks.laidMetH_plain _ _ _ (by kernel_rfl)] at h1
  exact Lib.tabIs_of_head (g := 2) (by kernel_rfl) (t := 137) (by kernel_rfl) Tryd.underlying137 Tryd.underlying121 (by kernel_rfl) (by kernel_rfl) h1

set_option maxRecDepth 100000 in
theorem pb_lifted (os : Os) (started : os.Started) (H : Type) (enc : TypeId × Value → H) :
    ReturnsInHanded {} Tryd.checked os 6 .any (fun w args => (Rows.primBackSpec.pre enc Tryd.prog Tryd.f6 [] false w args ∧ laidMetH Tryd.prog threeT w) ∧ sizedMet enc Tryd.prog Tryd.f6 (OpenSpec.ofChange Rows.primBackSpec) false w args)
      (Rows.primBackSpec.post enc Tryd.prog Tryd.f6 false true false false) := by
  refine returnsInHanded_of_change_and (C := Tryd.checked) (X := fun w _ => laidMetH Tryd.prog threeT w) (fun _ _ _ hh h => h.of_heap hh) pb_own started (by kernel_rfl) Tryd.func6
    (ChangeSpec.witness_shaped (enc := enc) (C := Tryd.checked) (os := os) (X := fun w _ => laidMetH Tryd.prog threeT w) false (World.doorLaid Tryd.prog 309 os) #[.int .u8 0, .int .i64 0] 8 rfl (World.shaped_of_RefB (by kernel_rfl) (by kernel_rfl)) (by kernel_rfl) (by kernel_rfl) (by kernel_rfl) (threeT_met os _)) ?_
  intro W base args ds gs before hval0 hW _ _ hL _
  have hval : ∀ (j : Nat) t v, Tryd.f6.params[j]? = some t → args[j]? = some v → Value.okWide Tryd.prog W .any base t v := hval0
  have hW' : DataW.Whole enc Tryd.prog Tryd.f6.params.toList Rows.primBackSpec.vars false W args.toList ds gs before := hW
  obtain ⟨p, q, hA0, hV, rfl, hfz, hnd⟩ := hW
  have hA : DataW.TrodAll enc Tryd.prog W 0 (fun _ => true) true Tryd.f6.params.toList args.toList ds p := hA0
  rw [Tryd.params6] at hA hval
  obtain ⟨v0, v1, d0, d1, p0, p1, rfl, rfl, rfl, h0, h1⟩ := trodAll_two hA
  obtain ⟨a, ra, la⟩ := arg_int Tryd.underlying5 (hval 0 5 v0 rfl rfl) h0
  obtain ⟨b, rb, lb⟩ := arg_int Tryd.underlying2 (hval 1 2 v1 rfl rfl) h1
  have hargs : ArgsRel (gh0 W) W [.int .u8 a, .int .i64 b] #[v0, v1] := by
    refine ⟨rfl, rfl, fun i x u hx hu => ?_⟩
    match i with
    | 0 => cases hx; cases hu; exact ra
    | 1 => cases hx; cases hu; exact rb
    | i + 2 => simp at hx
  have hr : 0 ≤ a ∧ a < 256 := by
    have h2 : 0 ≤ a ∧ a ≤ 255 := by simpa [Lit.wf, IntKind.min, IntKind.max, IntKind.bits, IntKind.signed] using la
    omega
  have hs : -9223372036854775808 ≤ b ∧ b < 9223372036854775808 := by
    have h2 : -9223372036854775808 ≤ b ∧ b ≤ 9223372036854775807 := by simpa [Lit.wf, IntKind.min, IntKind.max, IntKind.bits, IntKind.signed] using lb
    omega
  refine (entryG pb_mixed It.tableOk Tryd.func6 (by kernel_rfl) (by kernel_rfl) hargs (gok_tab (g := 2) (by kernel_rfl) (pb_tab hL)) (It.lawB a b hr.1 hr.2 hs.1 hs.2)).mono ?_
  rintro e W' ⟨rfl, hb⟩
  refine ⟨_, rfl, post_true pb_laid hW' hb (tb := 4) (by kernel_rfl) Tryd.underlying4 (by kernel_rfl) rfl ?_⟩
  rintro rfl
  exact ⟨rfl, rfl, rfl⟩

theorem prim_back : Rows.PrimBackSaid :=
  OpenClaim.holds_of_wide 6 Tryd.f6 rfl rfl rfl rfl rfl rfl rfl ⟨rfl, rfl, rfl, rfl, rfl⟩ rfl rfl rfl rfl rfl (by kernel_rfl) Tryd.func6 (by kernel_rfl)
    (of_decide_eq_true (by kernel_rfl)) (by unfold Func.isWrapper; first | (rw [if_pos (by decide +kernel)]; kernel_rfl) | (rw [if_neg (by decide +kernel)]; exact ⟨rfl, rfl⟩))
    (fun os started H enc _ => pb_lifted os started H enc)

theorem prim_back_card : Rows.PrimBackCardSaid :=
  Claim7.holds_tied_plain_at .later [] [.data, .data, .data] true Rows.primBackCard.stood.harness true
    prim_back (fun _ h => by cases h) (by kernel_rfl) (fun _ h => by cases h) primBack_row_tie rfl ⟨rfl, rfl⟩ (by kernel_rfl) rfl
    (fun f fn hf hfn => by
      obtain rfl : f = 6 := Option.some.inj ((show Tryd.prog.funcNamed "paideia/paideialaw23.PrimBack" = some 6 by kernel_rfl).symm.trans hf) |>.symm
      obtain rfl : fn = Tryd.f6 := (Option.some.inj (Tryd.func6.symm.trans hfn)).symm
      exact ⟨by kernel_rfl, fun j t ht => by
        rw [Tryd.params6] at ht
        rcases j with _ | _ | j
        · obtain rfl : t = 5 := by simpa using ht.symm
          exact (show Tryd.prog.wantsStandIn 5 = false by kernel_rfl)
        · obtain rfl : t = 2 := by simpa using ht.symm
          exact (show Tryd.prog.wantsStandIn 2 = false by kernel_rfl)
        · simp at ht⟩)
    (by kernel_rfl)

end Go.Proofs.YtabjkoehbbobdaaDoor
