/- The law of a type's parts answers true whatever the list of numbers is, and leaves it as it was. No condition. -/
import Derived.Test.YthebkhieedogdaaVtT4
import Derived.Test.YthebkhieedogdaaRows
namespace Go.Proofs.Ythebkhieedogdaa
open Go.ChangeShapes Go.WideShapes Go.ChangeAt Go.RowKit Go.Am

theorem tq_own : ownKnob Try.prog.godebug = none := by kernel_rfl
theorem tq_laid : laidOutB Try.prog = true := by kernel_rfl
theorem tq_mixed : Try.prog.follows .mixedOrders = true := Try.checked.mixed

set_option maxRecDepth 100000 in
theorem tq_lifted (os : Os) (started : os.Started) (H : Type) (enc : TypeId × Value → H) :
    ReturnsInHanded {} Try.checked os 4 .any (Rows.typesPartsSpec.pre6 enc Try.prog Try.f4 Rows.typesPartsRow.domain false) (Rows.typesPartsSpec.post enc Try.prog Try.f4 false true false false) := by
  refine returnsInHanded_of_change (C := Try.checked) tq_own started (by kernel_rfl) Try.func4
    (ChangeSpec.witness6 (enc := enc) (C := Try.checked) false ⟨#[], #[.slice none 0 0], []⟩ 8 (by kernel_rfl) (by kernel_rfl) (by kernel_rfl) (by kernel_rfl)) ?_
  intro W base args ds gs before hval0 hW hcnd _
  have hval : ∀ (j : Nat) t v, Try.f4.params[j]? = some t → args[j]? = some v → Value.okWide Try.prog W .any base t v := hval0
  have hW' : DataW.Whole enc Try.prog Try.f4.params.toList Rows.typesPartsSpec.vars false W args.toList ds gs before := hW
  obtain ⟨p, q, hA0, hV, rfl, hfz, hnd⟩ := hW
  have hA : DataW.TrodAll enc Try.prog W 0 (fun _ => true) true Try.f4.params.toList args.toList ds p := hA0
  rw [Try.params4] at hA hval
  obtain ⟨v0, d0, rfl, rfl, h0⟩ := trodAll_one hA
  obtain ⟨a, ra, la, wa⟩ := arg_ints Try.underlying22 Try.underlying3 (by kernel_rfl) (hval 0 22 v0 rfl rfl) h0
  have hargs : ArgsRel (gh0 W) W [.sl .frozen (a.map (.int .i64))] #[v0] := by
    refine ⟨rfl, rfl, fun i x u hx hu => ?_⟩
    match i with
    | 0 => cases hx; cases hu; exact ra
    | i + 1 => simp at hx
  refine (entry tq_mixed Vt.tableOk Try.func4 (by kernel_rfl) (by kernel_rfl) hargs (Vt.typesParts a)).mono ?_
  rintro e W' ⟨rfl, hb⟩
  refine ⟨_, rfl, post_true tq_laid hW' hb (tb := 4) (by kernel_rfl) Try.underlying4 (by kernel_rfl) rfl ?_⟩
  rintro rfl
  exact ⟨rfl, rfl, rfl⟩

theorem types_parts : Rows.TypesPartsSaid :=
  OpenClaim.holds_of_wide 4 Try.f4 rfl rfl rfl rfl rfl rfl rfl ⟨rfl, rfl, rfl, rfl, rfl⟩ rfl rfl rfl rfl rfl (by kernel_rfl) Try.func4 (by kernel_rfl)
    (of_decide_eq_true (by kernel_rfl)) (by unfold Func.isWrapper; first | (rw [if_pos (by decide +kernel)]; kernel_rfl) | (rw [if_neg (by decide +kernel)]; exact ⟨rfl, rfl⟩))
    (fun os started H enc _ => tq_lifted os started H enc)

end Go.Proofs.Ythebkhieedogdaa
