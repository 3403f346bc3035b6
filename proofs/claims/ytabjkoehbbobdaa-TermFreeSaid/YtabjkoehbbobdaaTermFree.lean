/- What a lambda, a let and an alternative bind is not free, all else is: the law answers true whatever the list of numbers and the number are, and leaves them as they were. No condition. -/
import Derived.Test.YtabjkoehbbobdaaTtFb
import Derived.Test.YtabjkoehbbobdaaRows
namespace Go.Proofs.Ytabjkoehbbobdaa
open Go.ChangeShapes Go.WideShapes Go.ChangeAt Go.RowKit Go.Am

theorem fr_own : ownKnob Try.prog.godebug = none := by kernel_rfl
theorem fr_laid : laidOutB Try.prog = true := by kernel_rfl
theorem fr_mixed : Try.prog.follows .mixedOrders = true := Try.checked.mixed

set_option maxRecDepth 100000 in
theorem fr_lifted (os : Os) (started : os.Started) (H : Type) (enc : TypeId × Value → H) :
    ReturnsInHanded {} Try.checked os 3 .any (Rows.termFreeSpec.pre6 enc Try.prog Try.f3 Rows.termFreeRow.domain false) (Rows.termFreeSpec.post enc Try.prog Try.f3 false true false false) := by
  refine returnsInHanded_of_change (C := Try.checked) fr_own started (by kernel_rfl) Try.func3
    (ChangeSpec.witness6 (enc := enc) (C := Try.checked) false ⟨#[], #[.slice none 0 0, .int .i64 0], []⟩ 8 (by kernel_rfl) (by kernel_rfl) (by kernel_rfl) (by kernel_rfl)) ?_
  intro W base args ds gs before hval0 hW hcnd _
  have hval : ∀ (j : Nat) t v, Try.f3.params[j]? = some t → args[j]? = some v → Value.okWide Try.prog W .any base t v := hval0
  have hW' : DataW.Whole enc Try.prog Try.f3.params.toList Rows.termFreeSpec.vars false W args.toList ds gs before := hW
  obtain ⟨p, q, hA0, hV, rfl, hfz, hnd⟩ := hW
  have hA : DataW.TrodAll enc Try.prog W 0 (fun _ => true) true Try.f3.params.toList args.toList ds p := hA0
  rw [Try.params3] at hA hval
  obtain ⟨v0, v1, d0, d1, p0, p1, rfl, rfl, rfl, h0, h1⟩ := trodAll_two hA
  obtain ⟨a, ra, la, wa⟩ := arg_ints Try.underlying22 Try.underlying3 (by kernel_rfl) (hval 0 22 v0 rfl rfl) h0
  obtain ⟨b, rb, wb⟩ := arg_int Try.underlying3 (hval 1 3 v1 rfl rfl) h1
  have hargs : ArgsRel (gh0 W) W [.sl .frozen (a.map (.int .i64)), .int .i64 b] #[v0, v1] := by
    refine ⟨rfl, rfl, fun i x u hx hu => ?_⟩
    match i with
    | 0 => cases hx; cases hu; exact ra
    | 1 => cases hx; cases hu; exact rb
    | i + 2 => simp at hx
  refine (entry fr_mixed Tt.tableOk Try.func3 (by kernel_rfl) (by kernel_rfl) hargs (Tt.law3f a b)).mono ?_
  rintro e W' ⟨rfl, hb⟩
  refine ⟨_, rfl, post_true fr_laid hW' hb (tb := 4) (by kernel_rfl) Try.underlying4 (by kernel_rfl) rfl ?_⟩
  rintro rfl
  exact ⟨rfl, rfl, rfl⟩

theorem term_free : Rows.TermFreeSaid :=
  OpenClaim.holds_of_wide 3 Try.f3 rfl rfl rfl rfl rfl rfl rfl ⟨rfl, rfl, rfl, rfl, rfl⟩ rfl rfl rfl rfl rfl (by kernel_rfl) Try.func3 (by kernel_rfl)
    (of_decide_eq_true (by kernel_rfl)) (by unfold Func.isWrapper; first | (rw [if_pos (by decide +kernel)]; kernel_rfl) | (rw [if_neg (by decide +kernel)]; exact ⟨rfl, rfl⟩))
    (fun os started H enc _ => fr_lifted os started H enc)

end Go.Proofs.Ytabjkoehbbobdaa
