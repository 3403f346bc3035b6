/- What any two types, any pairs of them come to is what the reference says: the law answers true whatever the numbers are, and leaves them as they were. No condition but what its row lists. -/
import Derived.Test.YtabjkoehbbobdaaDoorGtZ2
import Derived.Test.YtabjkoehbbobdaaDoorAmG
import Derived.Test.YtabjkoehbbobdaaDoorRows
import Derived.Test.YtabjkoehbbobdaaDoorTie
import Derived.Test.YtabjkoehbbobdaaDoorCards
namespace Go.Proofs.YtabjkoehbbobdaaDoor
open Go.ChangeShapes Go.WideShapes Go.ChangeAt Go.RowKit Go.Am

theorem us_own : ownKnob Tryd.prog.godebug = none := by kernel_rfl
theorem us_laid : laidOutB Tryd.prog = true := by kernel_rfl
theorem us_mixed : Tryd.prog.follows .mixedOrders = true := Tryd.checked.mixed
theorem us_star : "*" ++ "errors.errorString" = "*errors.errorString" := by decide
theorem us_row (u : TypeId) (h : Tryd.prog.typeName? 3 u = some "*errors.errorString") : u = 148 :=
  typeName_ptr_named (nm := "errors.errorString") (by rw [us_star]; kernel_rfl) (by kernel_rfl) (by decide) u (by rw [us_star]; exact h)

noncomputable def allfif : List (String × DataW Unit) := Rows.unifySaysRow.laid

theorem allfif_met (os : Os) (args : Array Value) : laidMetH Tryd.prog allfif ((World.doorLaid Tryd.prog 309 os).forCall (fun _ _ => 0) ⟨#[], args, []⟩).memory :=
  laidMetH_of_parts3 (fuel := 8) (laidMet_of_run' 8 (by kernel_rfl) (by kernel_rfl)) (by kernel_rfl) (by kernel_rfl)

theorem allfif_gok {W : World} (h : laidMetH Tryd.prog allfif W) : GOk [0, 1, 3, 4, 5, 6, 7, 8, 9, 10, 11, 12, 13, 14, 15, 1000148] (gh0 W) W := by
  rw [MakeChecks.laidMetH_plain _ _ _ (by kernel_rfl)] at h
  obtain ⟨ps, hv, hnd, rows⟩ := h
  have e : allfif = (allfif.map fun x => (x.1, textOf x.2)).map (asErr "*errors.errorString") := by kernel_rfl
  rw [e] at hv
  obtain ⟨al, he⟩ := errs_of (ti := 35) (tp := 148) (te := 164) (ts := 9) Tryd.underlying35 us_row Tryd.underlying148 Tryd.underlying164 rfl rfl Tryd.underlying9 (by kernel_rfl) (by kernel_rfl) rows
    (allfif.map fun x => (x.1, textOf x.2)) [3, 4, 5, 6, 7, 0, 1, 8, 9, 10, 11, 12, 13, 14, 15] ps hv (fun _ h => h) hnd (by kernel_rfl) (fun g hg => by
      simp only [List.mem_cons, List.not_mem_nil, or_false] at hg
      rcases hg with rfl | rfl | rfl | rfl | rfl | rfl | rfl | rfl | rfl | rfl | rfl | rfl | rfl | rfl | rfl <;> kernel_rfl)
  exact gok_errs he (by decide) (fun (te : Nat) ht => by
    simp only [List.mem_cons, List.not_mem_nil, or_false] at ht
    show (te : Nat) = 148
    omega)

set_option maxRecDepth 100000 in
theorem us_lifted (os : Os) (started : os.Started) (H : Type) (enc : TypeId × Value → H) :
    ReturnsInHanded {} Tryd.checked os 3 .any (fun w args => (Rows.unifySaysSpec.pre enc Tryd.prog Tryd.f3 [] false w args ∧ laidMetH Tryd.prog allfif w) ∧ sizedMet enc Tryd.prog Tryd.f3 (OpenSpec.ofChange Rows.unifySaysSpec) false w args)
      (Rows.unifySaysSpec.post enc Tryd.prog Tryd.f3 false true false false) := by
  refine returnsInHanded_of_change_and (C := Tryd.checked) (X := fun w _ => laidMetH Tryd.prog allfif w) (fun _ _ _ hh h => h.of_heap hh) us_own started (by kernel_rfl) Tryd.func3
    (ChangeSpec.witness_shaped (enc := enc) (C := Tryd.checked) (os := os) (X := fun w _ => laidMetH Tryd.prog allfif w) false (World.doorLaid Tryd.prog 309 os) #[.slice none 0 0] 8 rfl (World.shaped_of_RefB (by kernel_rfl) (by kernel_rfl)) (by kernel_rfl) (by kernel_rfl) (by kernel_rfl) (allfif_met os _)) ?_
  intro W base args ds gs before hval0 hW _ _ hL _
  have hval : ∀ (j : Nat) t v, Tryd.f3.params[j]? = some t → args[j]? = some v → Value.okWide Tryd.prog W .any base t v := hval0
  have hW' : DataW.Whole enc Tryd.prog Tryd.f3.params.toList Rows.unifySaysSpec.vars false W args.toList ds gs before := hW
  obtain ⟨p, q, hA0, hV, rfl, hfz, hnd⟩ := hW
  have hA : DataW.TrodAll enc Tryd.prog W 0 (fun _ => true) true Tryd.f3.params.toList args.toList ds p := hA0
  rw [Tryd.params3] at hA hval
  obtain ⟨v0, d0, rfl, rfl, h0⟩ := trodAll_one hA
  obtain ⟨a, ra, la, wa⟩ := arg_ints Tryd.underlying22 Tryd.underlying3 (by kernel_rfl) (hval 0 22 v0 rfl rfl) h0
  have hargs : ArgsRel (gh0 W) W [.sl .frozen (a.map (.int .i64))] #[v0] := by
    refine ⟨rfl, rfl, fun i x u hx hu => ?_⟩
    match i with
    | 0 => cases hx; cases hu; exact ra
    | i + 1 => simp at hx
  refine (entryG us_mixed Gt.tableOk Tryd.func3 (by kernel_rfl) (by kernel_rfl) hargs (allfif_gok hL) (Gt.law3 a)).mono ?_
  rintro e W' ⟨rfl, hb⟩
  refine ⟨_, rfl, post_true us_laid hW' hb (tb := 4) (by kernel_rfl) Tryd.underlying4 (by kernel_rfl) rfl ?_⟩
  rintro rfl
  exact ⟨rfl, rfl, rfl⟩

theorem unify_says : Rows.UnifySaysSaid :=
  OpenClaim.holds_of_wide 3 Tryd.f3 rfl rfl rfl rfl rfl rfl rfl ⟨rfl, rfl, rfl, rfl, rfl⟩ rfl rfl rfl rfl rfl (by kernel_rfl) Tryd.func3 (by kernel_rfl)
    (of_decide_eq_true (by kernel_rfl)) (by unfold Func.isWrapper; first | (rw [if_pos (by decide +kernel)]; kernel_rfl) | (rw [if_neg (by decide +kernel)]; exact ⟨rfl, rfl⟩))
    (fun os started H enc _ => us_lifted os started H enc)

theorem unify_says_card : Rows.UnifySaysCardSaid :=
  Claim7.holds_tied_plain_at .later [] [.sentinel, .sentinel, .sentinel, .sentinel, .sentinel, .sentinel, .sentinel, .sentinel, .sentinel, .sentinel, .sentinel, .sentinel, .sentinel, .sentinel, .sentinel] true Rows.unifySaysCard.stood.harness true
    unify_says (fun _ h => by cases h) (by kernel_rfl) (fun _ h => by cases h) unifySays_row_tie rfl ⟨rfl, rfl⟩ (by kernel_rfl) rfl
    (fun f fn hf hfn => by
      obtain rfl : f = 3 := Option.some.inj ((show Tryd.prog.funcNamed "paideia/paideialaw6.UnifySays" = some 3 by kernel_rfl).symm.trans hf) |>.symm
      obtain rfl : fn = Tryd.f3 := (Option.some.inj (Tryd.func3.symm.trans hfn)).symm
      exact ⟨by kernel_rfl, fun j t ht => by
        rw [Tryd.params3] at ht
        have h3 : t = 22 := by
          rcases j with _ | j
          · simpa using ht.symm
          · simp at ht
        subst h3
        exact (show Tryd.prog.wantsStandIn 22 = false by kernel_rfl)⟩)
    (by kernel_rfl)

end Go.Proofs.YtabjkoehbbobdaaDoor
