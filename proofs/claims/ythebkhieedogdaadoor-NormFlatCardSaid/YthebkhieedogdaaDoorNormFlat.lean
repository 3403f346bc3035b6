/- A name that is bound twice, or free and bound, an argument that is more than a name, a type: are not flat, and what is made flat is. No condition but what its row lists. -/
import Derived.Test.YthebkhieedogdaaDoorFtB3
import Derived.Test.YthebkhieedogdaaDoorAmG
import Derived.Test.YthebkhieedogdaaDoorRows
import Derived.Test.YthebkhieedogdaaDoorTie
import Derived.Test.YthebkhieedogdaaDoorCards
namespace Go.Proofs.YthebkhieedogdaaDoor
open Go.ChangeShapes Go.WideShapes Go.ChangeAt Go.RowKit Go.Am

theorem r_own : ownKnob Tryd.prog.godebug = none := by kernel_rfl
theorem r_laid : laidOutB Tryd.prog = true := by kernel_rfl
theorem r_mixed : Tryd.prog.follows .mixedOrders = true := Tryd.checked.mixed

noncomputable def r_L : List (String × DataW Unit) := [("math/bits.deBruijn32tab", Rows.laid_math_bits_deBruijn32tab), ("math/bits.deBruijn64tab", Rows.laid_math_bits_deBruijn64tab), ("internal/strconv.uint64pow10", Rows.laid_internal_strconv_uint64pow10)]

theorem r_met (os : Os) (args : Array Value) : laidMetH Tryd.prog r_L ((World.doorLaid Tryd.prog 105 os).forCall (fun _ _ => 0) ⟨#[], args, []⟩).memory :=
  laidMetH_of_parts3 (fuel := 8) (laidMet_of_run' 8 (by kernel_rfl) (by kernel_rfl)) (by kernel_rfl) (by kernel_rfl)

theorem r_gokE {W : World} (_ : laidMetH Tryd.prog r_L W) : GOk [] (gh0 W) W := gok_nil

theorem r_gok {W : World} (h : laidMetH Tryd.prog r_L W) : GOk [] (gh0 W) W := r_gokE h

set_option maxRecDepth 100000 in
theorem r_lifted (os : Os) (started : os.Started) (H : Type) (enc : TypeId × Value → H) :
    ReturnsInHanded {} Tryd.checked os 4 .any (fun w args => (Rows.normFlatSpec.pre enc Tryd.prog Tryd.f4 [] false w args ∧ laidMetH Tryd.prog r_L w) ∧ sizedMet enc Tryd.prog Tryd.f4 (OpenSpec.ofChange Rows.normFlatSpec) false w args)
      (Rows.normFlatSpec.post enc Tryd.prog Tryd.f4 false true false false) := by
  refine returnsInHanded_of_change_and (C := Tryd.checked) (X := fun w _ => laidMetH Tryd.prog r_L w) (fun _ _ _ hh h => h.of_heap hh) r_own started (by kernel_rfl) Tryd.func4
    (ChangeSpec.witness_shaped (enc := enc) (C := Tryd.checked) (os := os) (X := fun w _ => laidMetH Tryd.prog r_L w) false (World.doorLaid Tryd.prog 105 os) #[.int .i64 0] 8 rfl (World.shaped_of_RefB (by kernel_rfl) (by kernel_rfl)) (by kernel_rfl) (by kernel_rfl) (by kernel_rfl) (r_met os _)) ?_
  intro W base args ds gs before hval0 hW _ _ hL _
  have hval : ∀ (j : Nat) t v, Tryd.f4.params[j]? = some t → args[j]? = some v → Value.okWide Tryd.prog W .any base t v := hval0
  have hW' : DataW.Whole enc Tryd.prog Tryd.f4.params.toList Rows.normFlatSpec.vars false W args.toList ds gs before := hW
  obtain ⟨p, q, hA0, hV, rfl, hfz, hnd⟩ := hW
  have hA : DataW.TrodAll enc Tryd.prog W 0 (fun _ => true) true Tryd.f4.params.toList args.toList ds p := hA0
  rw [Tryd.params4] at hA hval
  obtain ⟨v0, d0, rfl, rfl, h0⟩ := trodAll_one hA
  obtain ⟨a0, r0, l0⟩ := arg_int Tryd.underlying3 (hval 0 3 v0 rfl rfl) h0
  have hargs : ArgsRel (gh0 W) W [.int .i64 a0] #[v0] := by
    refine ⟨rfl, rfl, fun i x u hx hu => ?_⟩
    match i with
    | 0 => cases hx; cases hu; exact r0
    | i + 1 => simp at hx
  refine (entryG r_mixed Go.Ft.tableOk Tryd.func4 (by kernel_rfl) (by kernel_rfl) hargs (r_gok hL) (Go.Ft.normFlat a0)).mono ?_
  rintro e W' ⟨rfl, hb⟩
  refine ⟨_, rfl, post_true r_laid hW' hb (tb := 4) (by kernel_rfl) Tryd.underlying4 (by kernel_rfl) rfl ?_⟩
  rintro rfl
  exact ⟨rfl, rfl, rfl⟩

theorem norm_flat : Rows.NormFlatSaid :=
  OpenClaim.holds_of_wide 4 Tryd.f4 rfl rfl rfl rfl rfl rfl rfl ⟨rfl, rfl, rfl, rfl, rfl⟩ rfl rfl rfl rfl rfl (by kernel_rfl) Tryd.func4 (by kernel_rfl)
    (of_decide_eq_true (by kernel_rfl)) (by unfold Func.isWrapper; first | (rw [if_pos (by decide +kernel)]; kernel_rfl) | (rw [if_neg (by decide +kernel)]; exact ⟨rfl, rfl⟩))
    (fun os started H enc _ => r_lifted os started H enc)

theorem norm_flat_card : Rows.NormFlatCardSaid :=
  Claim7.holds_tied_plain_at .later [] [.data, .data, .data] true Rows.normFlatCard.stood.harness false
    norm_flat (fun _ h => by cases h) (by kernel_rfl) (fun _ h => by cases h) normFlat_row_tie rfl ⟨rfl, rfl⟩ (by kernel_rfl) rfl
    (fun f fn hf hfn => by
      obtain rfl : f = 4 := Option.some.inj ((show Tryd.prog.funcNamed "paideia/paideialaw24.NormFlat" = some 4 by kernel_rfl).symm.trans hf) |>.symm
      obtain rfl : fn = Tryd.f4 := (Option.some.inj (Tryd.func4.symm.trans hfn)).symm
      exact ⟨by kernel_rfl, fun j t ht => by
        rw [Tryd.params4] at ht
        rcases j with _ | j
        · obtain rfl : t = 3 := by simpa using ht.symm
          exact (show Tryd.prog.wantsStandIn 3 = false by kernel_rfl)
        · simp at ht⟩)
    (by kernel_rfl)

end Go.Proofs.YthebkhieedogdaaDoor
