/- Numbers go round as they do: the law answers true whatever the two numbers are. No condition but what its row lists. -/
import Derived.Test.YtoachlegeiefaaaDoorDtI
import Derived.Test.YtoachlegeiefaaaDoorAmG
import Derived.Test.YtoachlegeiefaaaDoorRows
import Derived.Test.YtoachlegeiefaaaDoorTie
import Derived.Test.YtoachlegeiefaaaDoorCards
namespace Go.Proofs.YtoachlegeiefaaaDoor
open Go.ChangeShapes Go.WideShapes Go.ChangeAt Go.RowKit Go.Am

theorem pl_own : ownKnob Tryd.prog.godebug = none := by kernel_rfl
theorem pl_laid : laidOutB Tryd.prog = true := by kernel_rfl
theorem pl_mixed : Tryd.prog.follows .mixedOrders = true := Tryd.checked.mixed

noncomputable def three : List (String × DataW Unit) := [("math/bits.deBruijn32tab", Rows.laid_math_bits_deBruijn32tab), ("math/bits.deBruijn64tab", Rows.laid_math_bits_deBruijn64tab), ("internal/strconv.uint64pow10", Rows.laid_internal_strconv_uint64pow10)]

theorem three_met (os : Os) (args : Array Value) : laidMetH Tryd.prog three ((World.doorLaid Tryd.prog 81 os).forCall (fun _ _ => 0) ⟨#[], args, []⟩).memory :=
  laidMetH_of_parts3 (fuel := 8) (laidMet_of_run' 8 (by kernel_rfl) (by kernel_rfl)) (by kernel_rfl) (by kernel_rfl)

set_option maxRecDepth 100000 in
theorem pl_lifted (os : Os) (started : os.Started) (H : Type) (enc : TypeId × Value → H) :
    ReturnsInHanded {} Tryd.checked os 8 .any (fun w args => (Rows.primLawsSpec.pre enc Tryd.prog Tryd.f8 [] false w args ∧ laidMetH Tryd.prog three w) ∧ sizedMet enc Tryd.prog Tryd.f8 (OpenSpec.ofChange Rows.primLawsSpec) false w args)
      (Rows.primLawsSpec.post enc Tryd.prog Tryd.f8 false true false false) := by
  refine returnsInHanded_of_change_and (C := Tryd.checked) (X := fun w _ => laidMetH Tryd.prog three w) (fun _ _ _ hh h => h.of_heap hh) pl_own started (by kernel_rfl) Tryd.func8
    (ChangeSpec.witness_shaped (enc := enc) (C := Tryd.checked) (os := os) (X := fun w _ => laidMetH Tryd.prog three w) false (World.doorLaid Tryd.prog 81 os) #[.int .i64 0, .int .i64 0] 8 rfl (World.shaped_of_RefB (by kernel_rfl) (by kernel_rfl)) (by kernel_rfl) (by kernel_rfl) (by kernel_rfl) (three_met os _)) ?_
  intro W base args ds gs before hval0 hW _ _ hL _
  have hval : ∀ (j : Nat) t v, Tryd.f8.params[j]? = some t → args[j]? = some v → Value.okWide Tryd.prog W .any base t v := hval0
  have hW' : DataW.Whole enc Tryd.prog Tryd.f8.params.toList Rows.primLawsSpec.vars false W args.toList ds gs before := hW
  obtain ⟨p, q, hA0, hV, rfl, hfz, hnd⟩ := hW
  have hA : DataW.TrodAll enc Tryd.prog W 0 (fun _ => true) true Tryd.f8.params.toList args.toList ds p := hA0
  rw [Tryd.params8] at hA hval
  obtain ⟨v0, v1, d0, d1, p0, p1, rfl, rfl, rfl, h0, h1⟩ := trodAll_two hA
  obtain ⟨a, ra, la⟩ := arg_int Tryd.underlying2 (hval 0 2 v0 rfl rfl) h0
  obtain ⟨b, rb, lb⟩ := arg_int Tryd.underlying2 (hval 1 2 v1 rfl rfl) h1
  have hargs : ArgsRel (gh0 W) W [.int .i64 a, .int .i64 b] #[v0, v1] := by
    refine ⟨rfl, rfl, fun i x u hx hu => ?_⟩
    match i with
    | 0 => cases hx; cases hu; exact ra
    | 1 => cases hx; cases hu; exact rb
    | i + 2 => simp at hx
  have hr : -9223372036854775808 ≤ a ∧ a < 9223372036854775808 := by
    have h2 : -9223372036854775808 ≤ a ∧ a ≤ 9223372036854775807 := by simpa [Lit.wf, IntKind.min, IntKind.max, IntKind.bits, IntKind.signed] using la
    omega
  refine (entry pl_mixed Dt.tableOk Tryd.func8 (by kernel_rfl) (by kernel_rfl) hargs (Dt.lawP a b hr.1 hr.2)).mono ?_
  rintro e W' ⟨rfl, hb⟩
  refine ⟨_, rfl, post_true pl_laid hW' hb (tb := 4) (by kernel_rfl) Tryd.underlying4 (by kernel_rfl) rfl ?_⟩
  rintro rfl
  exact ⟨rfl, rfl, rfl⟩

theorem prim_laws : Rows.PrimLawsSaid :=
  OpenClaim.holds_of_wide 8 Tryd.f8 rfl rfl rfl rfl rfl rfl rfl ⟨rfl, rfl, rfl, rfl, rfl⟩ rfl rfl rfl rfl rfl (by kernel_rfl) Tryd.func8 (by kernel_rfl)
    (of_decide_eq_true (by kernel_rfl)) (by unfold Func.isWrapper; first | (rw [if_pos (by decide +kernel)]; kernel_rfl) | (rw [if_neg (by decide +kernel)]; exact ⟨rfl, rfl⟩))
    (fun os started H enc _ => pl_lifted os started H enc)

theorem prim_laws_card : Rows.PrimLawsCardSaid :=
  Claim7.holds_tied_plain_at .later [] [.data, .data, .data] true Rows.primLawsCard.stood.harness false
    prim_laws (fun _ h => by cases h) (by kernel_rfl) (fun _ h => by cases h) primLaws_row_tie rfl ⟨rfl, rfl⟩ (by kernel_rfl) rfl
    (fun f fn hf hfn => by
      obtain rfl : f = 8 := Option.some.inj ((show Tryd.prog.funcNamed "paideia/paideialaw23.PrimLaws" = some 8 by kernel_rfl).symm.trans hf) |>.symm
      obtain rfl : fn = Tryd.f8 := (Option.some.inj (Tryd.func8.symm.trans hfn)).symm
      exact ⟨by kernel_rfl, fun j t ht => by
        rw [Tryd.params8] at ht
        have h3 : t = 2 := by
          rcases j with _ | _ | j
          · simpa using ht.symm
          · simpa using ht.symm
          · simp at ht
        subst h3
        exact (show Tryd.prog.wantsStandIn 2 = false by kernel_rfl)⟩)
    (by kernel_rfl)

end Go.Proofs.YtoachlegeiefaaaDoor
