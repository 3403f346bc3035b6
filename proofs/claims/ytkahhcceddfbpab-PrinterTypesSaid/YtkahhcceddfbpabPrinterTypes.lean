/- Brackets stand where they have to, and nowhere else: the law answers true whatever the number is. No condition. -/
import Derived.Test.YtkahhcceddfbpabAtP3
import Derived.Test.YtkahhcceddfbpabRows
namespace Go.Proofs.Ytkahhcceddfbpab
open Go.ChangeShapes Go.WideShapes Go.ChangeAt Go.RowKit Go.Am

theorem pt_own : ownKnob Try.prog.godebug = none := by kernel_rfl
theorem pt_laid : laidOutB Try.prog = true := by kernel_rfl
theorem pt_mixed : Try.prog.follows .mixedOrders = true := Try.checked.mixed

set_option maxRecDepth 100000 in
theorem pt_lifted (os : Os) (started : os.Started) (H : Type) (enc : TypeId × Value → H) :
    ReturnsInHanded {} Try.checked os 5 .any (Rows.printerTypesSpec.pre6 enc Try.prog Try.f5 Rows.printerTypesRow.domain false) (Rows.printerTypesSpec.post enc Try.prog Try.f5 false true false false) := by
  refine returnsInHanded_of_change (C := Try.checked) pt_own started (by kernel_rfl) Try.func5
    (ChangeSpec.witness6 (enc := enc) (C := Try.checked) false ⟨#[], #[.int .i64 0], []⟩ 8 (by kernel_rfl) (by kernel_rfl) (by kernel_rfl) (by kernel_rfl)) ?_
  intro W base args ds gs before hval0 hW hcnd _
  have hval : ∀ (j : Nat) t v, Try.f5.params[j]? = some t → args[j]? = some v → Value.okWide Try.prog W .any base t v := hval0
  have hW' : DataW.Whole enc Try.prog Try.f5.params.toList Rows.printerTypesSpec.vars false W args.toList ds gs before := hW
  obtain ⟨p, q, hA0, hV, rfl, hfz, hnd⟩ := hW
  have hA : DataW.TrodAll enc Try.prog W 0 (fun _ => true) true Try.f5.params.toList args.toList ds p := hA0
  rw [Try.params5] at hA hval
  obtain ⟨v0, d0, rfl, rfl, h0⟩ := trodAll_one hA
  obtain ⟨n, rn, wn⟩ := arg_int Try.underlying3 (hval 0 3 v0 rfl rfl) h0
  have hargs : ArgsRel (gh0 W) W [.int .i64 n] #[v0] := by
    refine ⟨rfl, rfl, fun i x u hx hu => ?_⟩
    match i with
    | 0 => cases hx; cases hu; exact rn
    | i + 1 => simp at hx
  refine (entry pt_mixed At.tableOk Try.func5 (by kernel_rfl) (by kernel_rfl) hargs (At.law5 n)).mono ?_
  rintro e W' ⟨rfl, hb⟩
  refine ⟨_, rfl, post_true pt_laid hW' hb (tb := 4) (by kernel_rfl) Try.underlying4 (by kernel_rfl) rfl ?_⟩
  rintro rfl
  exact ⟨rfl, rfl, rfl⟩

theorem printer_types : Rows.PrinterTypesSaid :=
  OpenClaim.holds_of_wide 5 Try.f5 rfl rfl rfl rfl rfl rfl rfl ⟨rfl, rfl, rfl, rfl, rfl⟩ rfl rfl rfl rfl rfl (by kernel_rfl) Try.func5 (by kernel_rfl)
    (of_decide_eq_true (by kernel_rfl)) (by unfold Func.isWrapper; first | (rw [if_pos (by decide +kernel)]; kernel_rfl) | (rw [if_neg (by decide +kernel)]; exact ⟨rfl, rfl⟩))
    (fun os started H enc _ => pt_lifted os started H enc)

end Go.Proofs.Ytkahhcceddfbpab
