/- Whatever else makes the two one goes by what is found: the law answers true whatever the three lists of numbers are, and leaves them as they were. No condition. -/
import Derived.Test.YtabjkoehbbobdaaDoorHtJ5
import Derived.Test.YtabjkoehbbobdaaDoorAmG
import Derived.Test.YtabjkoehbbobdaaDoorRows
import Derived.Test.YtabjkoehbbobdaaDoorTie
import Derived.Test.YtabjkoehbbobdaaDoorCards
namespace Go.Proofs.YtabjkoehbbobdaaDoor
open Go.ChangeShapes Go.WideShapes Go.ChangeAt Go.RowKit Go.Am

theorem um_own : ownKnob Tryd.prog.godebug = none := by kernel_rfl
theorem um_laid : laidOutB Tryd.prog = true := by kernel_rfl
theorem um_mixed : Tryd.prog.follows .mixedOrders = true := Tryd.checked.mixed

noncomputable def two : List (String × DataW Unit) := [("paideia/api.ErrType", Rows.laid_paideia_api_ErrType), ("paideia/api.ErrOccur", Rows.laid_paideia_api_ErrOccur)]

theorem two_met (os : Os) (args : Array Value) : laidMetH Tryd.prog two ((World.doorLaid Tryd.prog 309 os).forCall (fun _ _ => 0) ⟨#[], args, []⟩).memory :=
  laidMetH_of_parts3 (fuel := 8) (laidMet_of_run' 8 (by kernel_rfl) (by kernel_rfl)) (by kernel_rfl) (by kernel_rfl)

theorem two_gok {W : World} (h : laidMetH Tryd.prog two W) : GOk [0, 1] (gh0 W) W := gok_of (by intro g hg; simp at hg; omega) fun g hg => by
  simp only [List.mem_cons, List.not_mem_nil, or_false] at hg
  rcases hg with rfl | rfl
  · exact cells_of_laid (by kernel_rfl) h (n := "paideia/api.ErrType") (List.mem_cons_self ..) (by kernel_rfl) (t := 35) (by kernel_rfl) Tryd.underlying35
  · exact cells_of_laid (by kernel_rfl) h (n := "paideia/api.ErrOccur") (List.mem_cons_of_mem _ (List.mem_cons_self ..)) (by kernel_rfl) (t := 35) (by kernel_rfl) Tryd.underlying35

set_option maxRecDepth 100000 in
theorem um_lifted (os : Os) (started : os.Started) (H : Type) (enc : TypeId × Value → H) :
    ReturnsInHanded {} Tryd.checked os 4 .any (fun w args => (Rows.unifyMostSpec.pre enc Tryd.prog Tryd.f4 [] false w args ∧ laidMetH Tryd.prog two w) ∧ sizedMet enc Tryd.prog Tryd.f4 (OpenSpec.ofChange Rows.unifyMostSpec) false w args)
      (Rows.unifyMostSpec.post enc Tryd.prog Tryd.f4 false true false false) := by
  refine returnsInHanded_of_change_and (C := Tryd.checked) (X := fun w _ => laidMetH Tryd.prog two w) (fun _ _ _ hh h => h.of_heap hh) um_own started (by kernel_rfl) Tryd.func4
    (ChangeSpec.witness_shaped (enc := enc) (C := Tryd.checked) (os := os) (X := fun w _ => laidMetH Tryd.prog two w) false (World.doorLaid Tryd.prog 309 os) #[.slice none 0 0, .slice none 0 0, .slice none 0 0] 8 rfl (World.shaped_of_RefB (by kernel_rfl) (by kernel_rfl)) (by kernel_rfl) (by kernel_rfl) (by kernel_rfl) (two_met os _)) ?_
  intro W base args ds gs before hval0 hW _ _ hL _
  have hval : ∀ (j : Nat) t v, Tryd.f4.params[j]? = some t → args[j]? = some v → Value.okWide Tryd.prog W .any base t v := hval0
  have hW' : DataW.Whole enc Tryd.prog Tryd.f4.params.toList Rows.unifyMostSpec.vars false W args.toList ds gs before := hW
  obtain ⟨p, q, hA0, hV, rfl, hfz, hnd⟩ := hW
  have hA : DataW.TrodAll enc Tryd.prog W 0 (fun _ => true) true Tryd.f4.params.toList args.toList ds p := hA0
  rw [Tryd.params4] at hA hval
  obtain ⟨v0, v1, v2, d0, d1, d2, p0, p1, p2, rfl, rfl, rfl, h0, h1, h2⟩ := trodAll_three hA
  obtain ⟨a, ra, la, wa⟩ := arg_ints Tryd.underlying22 Tryd.underlying3 (by kernel_rfl) (hval 0 22 v0 rfl rfl) h0
  obtain ⟨b, rb, lb, wb⟩ := arg_ints Tryd.underlying22 Tryd.underlying3 (by kernel_rfl) (hval 1 22 v1 rfl rfl) h1
  obtain ⟨c, rc, lc, wc⟩ := arg_ints Tryd.underlying22 Tryd.underlying3 (by kernel_rfl) (hval 2 22 v2 rfl rfl) h2
  have hargs : ArgsRel (gh0 W) W [.sl .frozen (a.map (.int .i64)), .sl .frozen (b.map (.int .i64)), .sl .frozen (c.map (.int .i64))] #[v0, v1, v2] := by
    refine ⟨rfl, rfl, fun i x u hx hu => ?_⟩
    match i with
    | 0 => cases hx; cases hu; exact ra
    | 1 => cases hx; cases hu; exact rb
    | 2 => cases hx; cases hu; exact rc
    | i + 3 => simp at hx
  refine (entryG um_mixed Ht.tableOk Tryd.func4 (by kernel_rfl) (by kernel_rfl) hargs (two_gok hL) (Ht.law4m a b c)).mono ?_
  rintro e W' ⟨rfl, hb⟩
  refine ⟨_, rfl, post_true um_laid hW' hb (tb := 4) (by kernel_rfl) Tryd.underlying4 (by kernel_rfl) rfl ?_⟩
  rintro rfl
  exact ⟨rfl, rfl, rfl⟩

theorem unify_most : Rows.UnifyMostSaid :=
  OpenClaim.holds_of_wide 4 Tryd.f4 rfl rfl rfl rfl rfl rfl rfl ⟨rfl, rfl, rfl, rfl, rfl⟩ rfl rfl rfl rfl rfl (by kernel_rfl) Tryd.func4 (by kernel_rfl)
    (of_decide_eq_true (by kernel_rfl)) (by unfold Func.isWrapper; first | (rw [if_pos (by decide +kernel)]; kernel_rfl) | (rw [if_neg (by decide +kernel)]; exact ⟨rfl, rfl⟩))
    (fun os started H enc _ => um_lifted os started H enc)

theorem unify_most_card : Rows.UnifyMostCardSaid :=
  Claim7.holds_tied_plain_at .later [] [.sentinel, .sentinel] true Rows.unifyMostCard.stood.harness true
    unify_most (fun _ h => by cases h) (by kernel_rfl) (fun _ h => by cases h) unifyMost_row_tie rfl ⟨rfl, rfl⟩ (by kernel_rfl) rfl
    (fun f fn hf hfn => by
      obtain rfl : f = 4 := Option.some.inj ((show Tryd.prog.funcNamed "paideia/paideialaw6.UnifyMost" = some 4 by kernel_rfl).symm.trans hf) |>.symm
      obtain rfl : fn = Tryd.f4 := (Option.some.inj (Tryd.func4.symm.trans hfn)).symm
      exact ⟨by kernel_rfl, fun j t ht => by
        rw [Tryd.params4] at ht
        have h3 : t = 22 := by
          rcases j with _ | _ | _ | j
          · simpa using ht.symm
          · simpa using ht.symm
          · simpa using ht.symm
          · simp at ht
        subst h3
        exact (show Tryd.prog.wantsStandIn 22 = false by kernel_rfl)⟩)
    (by kernel_rfl)

end Go.Proofs.YtabjkoehbbobdaaDoor
