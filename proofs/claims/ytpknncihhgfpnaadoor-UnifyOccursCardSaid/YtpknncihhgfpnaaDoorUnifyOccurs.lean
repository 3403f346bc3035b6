/- A variable is not one with a type that it stands in: the law answers true whatever the numbers are, and leaves them as they were. No condition but what its row lists. -/
import Derived.Test.YtpknncihhgfpnaaDoorFtY2
import Derived.Test.YtpknncihhgfpnaaDoorAmG
import Derived.Test.YtpknncihhgfpnaaDoorRows
import Derived.Test.YtpknncihhgfpnaaDoorTie
import Derived.Test.YtpknncihhgfpnaaDoorCards
namespace Go.Proofs.YtpknncihhgfpnaaDoor
open Go.ChangeShapes Go.WideShapes Go.ChangeAt Go.RowKit Go.Am

theorem uc_own : ownKnob Tryd.prog.godebug = none := by kernel_rfl
theorem uc_laid : laidOutB Tryd.prog = true := by kernel_rfl
theorem uc_mixed : Tryd.prog.follows .mixedOrders = true := Tryd.checked.mixed
theorem uc_star : "*" ++ "errors.errorString" = "*errors.errorString" := by decide
theorem uc_row (u : TypeId) (h : Tryd.prog.typeName? 3 u = some "*errors.errorString") : u = 109 :=
  typeName_ptr_named (nm := "errors.errorString") (by rw [uc_star]; kernel_rfl) (by kernel_rfl) (by decide) u (by rw [uc_star]; exact h)

noncomputable def fifteen : List (String × DataW Unit) := Rows.unifyOccursRow.laid

theorem fifteen_met (os : Os) (args : Array Value) : laidMetH Tryd.prog fifteen ((World.doorLaid Tryd.prog 294 os).forCall (fun _ _ => 0) ⟨#[], args, []⟩).memory :=
  laidMetH_of_parts3 (fuel := 8) (laidMet_of_run' 8 (by kernel_rfl) (by kernel_rfl)) (by kernel_rfl) (by kernel_rfl)

theorem fifteen_gok {W : World} (h : laidMetH Tryd.prog fifteen W) : GOk [0, 1, 2, 3, 4, 5, 6, 7, 8, 9, 10, 11, 12, 13, 14, 1000109] (gh0 W) W := by
  rw [MakeChecks.laidMetH_plain _ _ _ (by kernel_rfl)] at h
  obtain ⟨ps, hv, hnd, rows⟩ := h
  have e : fifteen = (fifteen.map fun x => (x.1, textOf x.2)).map (asErr "*errors.errorString") := by kernel_rfl
  rw [e] at hv
  obtain ⟨al, he⟩ := errs_of (ti := 35) (tp := 109) (te := 126) (ts := 9) Tryd.underlying35 uc_row Tryd.underlying109 Tryd.underlying126 rfl rfl Tryd.underlying9 (by kernel_rfl) (by kernel_rfl) rows
    (fifteen.map fun x => (x.1, textOf x.2)) [2, 3, 4, 5, 6, 0, 1, 7, 8, 9, 10, 11, 12, 13, 14] ps hv (fun _ h => h) hnd (by kernel_rfl) (fun g hg => by
      simp only [List.mem_cons, List.not_mem_nil, or_false] at hg
      rcases hg with rfl | rfl | rfl | rfl | rfl | rfl | rfl | rfl | rfl | rfl | rfl | rfl | rfl | rfl | rfl <;> kernel_rfl)
  exact gok_errs he (by decide) (fun (te : Nat) ht => by
    simp only [List.mem_cons, List.not_mem_nil, or_false] at ht
    show (te : Nat) = 109
    omega)

set_option maxRecDepth 100000 in
theorem uc_lifted (os : Os) (started : os.Started) (H : Type) (enc : TypeId × Value → H) :
    ReturnsInHanded {} Tryd.checked os 6 .any (fun w args => (Rows.unifyOccursSpec.pre enc Tryd.prog Tryd.f6 [] false w args ∧ laidMetH Tryd.prog fifteen w) ∧ sizedMet enc Tryd.prog Tryd.f6 (OpenSpec.ofChange Rows.unifyOccursSpec) false w args)
      (Rows.unifyOccursSpec.post enc Tryd.prog Tryd.f6 false true false false) := by
  refine returnsInHanded_of_change_and (C := Tryd.checked) (X := fun w _ => laidMetH Tryd.prog fifteen w) (fun _ _ _ hh h => h.of_heap hh) uc_own started (by kernel_rfl) Tryd.func6
    (ChangeSpec.witness_shaped (enc := enc) (C := Tryd.checked) (os := os) (X := fun w _ => laidMetH Tryd.prog fifteen w) false (World.doorLaid Tryd.prog 294 os) #[.slice none 0 0] 8 rfl (World.shaped_of_RefB (by kernel_rfl) (by kernel_rfl)) (by kernel_rfl) (by kernel_rfl) (by kernel_rfl) (fifteen_met os _)) ?_
  intro W base args ds gs before hval0 hW _ _ hL _
  have hval : ∀ (j : Nat) t v, Tryd.f6.params[j]? = some t → args[j]? = some v → Value.okWide Tryd.prog W .any base t v := hval0
  have hW' : DataW.Whole enc Tryd.prog Tryd.f6.params.toList Rows.unifyOccursSpec.vars false W args.toList ds gs before := hW
  obtain ⟨p, q, hA0, hV, rfl, hfz, hnd⟩ := hW
  have hA : DataW.TrodAll enc Tryd.prog W 0 (fun _ => true) true Tryd.f6.params.toList args.toList ds p := hA0
  rw [Tryd.params6] at hA hval
  obtain ⟨v0, d0, rfl, rfl, h0⟩ := trodAll_one hA
  obtain ⟨a, ra, la, wa⟩ := arg_ints Tryd.underlying22 Tryd.underlying3 (by kernel_rfl) (hval 0 22 v0 rfl rfl) h0
  have hargs : ArgsRel (gh0 W) W [.sl .frozen (a.map (.int .i64))] #[v0] := by
    refine ⟨rfl, rfl, fun i x u hx hu => ?_⟩
    match i with
    | 0 => cases hx; cases hu; exact ra
    | i + 1 => simp at hx
  refine (entryG uc_mixed Ft.tableOk Tryd.func6 (by kernel_rfl) (by kernel_rfl) hargs (fifteen_gok hL) (Ft.law6o a)).mono ?_
  rintro e W' ⟨rfl, hb⟩
  refine ⟨_, rfl, post_true uc_laid hW' hb (tb := 4) (by kernel_rfl) Tryd.underlying4 (by kernel_rfl) rfl ?_⟩
  rintro rfl
  exact ⟨rfl, rfl, rfl⟩

theorem unify_occurs : Rows.UnifyOccursSaid :=
  OpenClaim.holds_of_wide 6 Tryd.f6 rfl rfl rfl rfl rfl rfl rfl ⟨rfl, rfl, rfl, rfl, rfl⟩ rfl rfl rfl rfl rfl (by kernel_rfl) Tryd.func6 (by kernel_rfl)
    (of_decide_eq_true (by kernel_rfl)) (by unfold Func.isWrapper; first | (rw [if_pos (by decide +kernel)]; kernel_rfl) | (rw [if_neg (by decide +kernel)]; exact ⟨rfl, rfl⟩))
    (fun os started H enc _ => uc_lifted os started H enc)

theorem unify_occurs_card : Rows.UnifyOccursCardSaid :=
  Claim7.holds_tied_plain_at .later [] [.sentinel, .sentinel, .sentinel, .sentinel, .sentinel, .sentinel, .sentinel, .sentinel, .sentinel, .sentinel, .sentinel, .sentinel, .sentinel, .sentinel, .sentinel] true Rows.unifyOccursCard.stood.harness true
    unify_occurs (fun _ h => by cases h) (by kernel_rfl) (fun _ h => by cases h) unifyOccurs_row_tie rfl ⟨rfl, rfl⟩ (by kernel_rfl) rfl
    (fun f fn hf hfn => by
      obtain rfl : f = 6 := Option.some.inj ((show Tryd.prog.funcNamed "paideia/paideialaw6.UnifyOccurs" = some 6 by kernel_rfl).symm.trans hf) |>.symm
      obtain rfl : fn = Tryd.f6 := (Option.some.inj (Tryd.func6.symm.trans hfn)).symm
      exact ⟨by kernel_rfl, fun j t ht => by
        rw [Tryd.params6] at ht
        have h3 : t = 22 := by
          rcases j with _ | j
          · simpa using ht.symm
          · simp at ht
        subst h3
        exact (show Tryd.prog.wantsStandIn 22 = false by kernel_rfl)⟩)
    (by kernel_rfl)

end Go.Proofs.YtpknncihhgfpnaaDoor
