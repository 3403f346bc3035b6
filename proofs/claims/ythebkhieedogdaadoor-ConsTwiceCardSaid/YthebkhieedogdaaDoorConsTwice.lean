/- The law answers true whatever its arguments are, and leaves them as they were. No condition but what its row lists. -/
import Derived.Test.YthebkhieedogdaaDoorWtA1
import Derived.Test.YthebkhieedogdaaDoorAmG
import Derived.Test.YthebkhieedogdaaDoorRows
import Derived.Test.YthebkhieedogdaaDoorTie
import Derived.Test.YthebkhieedogdaaDoorCards
namespace Go.Proofs.YthebkhieedogdaaDoor
open Go.ChangeShapes Go.WideShapes Go.ChangeAt Go.RowKit Go.Am

theorem r_own : ownKnob Tryd.prog.godebug = none := by kernel_rfl
theorem r_laid : laidOutB Tryd.prog = true := by kernel_rfl
theorem r_mixed : Tryd.prog.follows .mixedOrders = true := Tryd.checked.mixed

noncomputable def r_L : List (String × DataW Unit) := [("paideia/api.ErrScope", Rows.laid_paideia_api_ErrScope), ("paideia/api.ErrTwice", Rows.laid_paideia_api_ErrTwice), ("paideia/api.ErrKind", Rows.laid_paideia_api_ErrKind)]

theorem r_met (os : Os) (args : Array Value) : laidMetH Tryd.prog r_L ((World.doorLaid Tryd.prog 105 os).forCall (fun _ _ => 0) ⟨#[], args, []⟩).memory :=
  laidMetH_of_parts3 (fuel := 8) (laidMet_of_run' 8 (by kernel_rfl) (by kernel_rfl)) (by kernel_rfl) (by kernel_rfl)

theorem r_gokE {W : World} (h : laidMetH Tryd.prog r_L W) : GOk [0, 1, 2] (gh0 W) W := gok_of (by intro g hg; simp at hg; omega) fun g hg => by
  simp only [List.mem_cons, List.not_mem_nil, or_false] at hg
  rcases hg with rfl | rfl | rfl
  · exact cells_of_laid (by kernel_rfl) h (n := "paideia/api.ErrTwice") (List.mem_cons_of_mem _ (List.mem_cons_self ..)) (by kernel_rfl) (t := 38) (by kernel_rfl) Tryd.underlying38
  · exact cells_of_laid (by kernel_rfl) h (n := "paideia/api.ErrScope") (List.mem_cons_self ..) (by kernel_rfl) (t := 38) (by kernel_rfl) Tryd.underlying38
  · exact cells_of_laid (by kernel_rfl) h (n := "paideia/api.ErrKind") (List.mem_cons_of_mem _ (List.mem_cons_of_mem _ (List.mem_cons_self ..))) (by kernel_rfl) (t := 38) (by kernel_rfl) Tryd.underlying38

theorem r_gok {W : World} (h : laidMetH Tryd.prog r_L W) : GOk [0, 1, 2] (gh0 W) W := r_gokE h

set_option maxRecDepth 100000 in
theorem r_lifted (os : Os) (started : os.Started) (H : Type) (enc : TypeId × Value → H) :
    ReturnsInHanded {} Tryd.checked os 3 .any (fun w args => (Rows.consTwiceSpec.pre enc Tryd.prog Tryd.f3 [] false w args ∧ laidMetH Tryd.prog r_L w) ∧ sizedMet enc Tryd.prog Tryd.f3 (OpenSpec.ofChange Rows.consTwiceSpec) false w args)
      (Rows.consTwiceSpec.post enc Tryd.prog Tryd.f3 false true false false) := by
  refine returnsInHanded_of_change_and (C := Tryd.checked) (X := fun w _ => laidMetH Tryd.prog r_L w) (fun _ _ _ hh h => h.of_heap hh) r_own started (by kernel_rfl) Tryd.func3
    (ChangeSpec.witness_shaped (enc := enc) (C := Tryd.checked) (os := os) (X := fun w _ => laidMetH Tryd.prog r_L w) false (World.doorLaid Tryd.prog 105 os) #[.int .i64 0] 8 rfl (World.shaped_of_RefB (by kernel_rfl) (by kernel_rfl)) (by kernel_rfl) (by kernel_rfl) (by kernel_rfl) (r_met os _)) ?_
  intro W base args ds gs before hval0 hW _ _ hL _
  have hval : ∀ (j : Nat) t v, Tryd.f3.params[j]? = some t → args[j]? = some v → Value.okWide Tryd.prog W .any base t v := hval0
  have hW' : DataW.Whole enc Tryd.prog Tryd.f3.params.toList Rows.consTwiceSpec.vars false W args.toList ds gs before := hW
  obtain ⟨p, q, hA0, hV, rfl, hfz, hnd⟩ := hW
  have hA : DataW.TrodAll enc Tryd.prog W 0 (fun _ => true) true Tryd.f3.params.toList args.toList ds p := hA0
  rw [Tryd.params3] at hA hval
  obtain ⟨v0, d0, rfl, rfl, h0⟩ := trodAll_one hA
  obtain ⟨a0, r0, l0⟩ := arg_int Tryd.underlying3 (hval 0 3 v0 rfl rfl) h0
  have hargs : ArgsRel (gh0 W) W [.int .i64 a0] #[v0] := by
    refine ⟨rfl, rfl, fun i x u hx hu => ?_⟩
    match i with
    | 0 => cases hx; cases hu; exact r0
    | i + 1 => simp at hx
  refine (entryG r_mixed Go.Wt.tableOk Tryd.func3 (by kernel_rfl) (by kernel_rfl) hargs (r_gok hL) (Go.Wt.consTwice a0)).mono ?_
  rintro e W' ⟨rfl, hb⟩
  refine ⟨_, rfl, post_true r_laid hW' hb (tb := 4) (by kernel_rfl) Tryd.underlying4 (by kernel_rfl) rfl ?_⟩
  rintro rfl
  exact ⟨rfl, rfl, rfl⟩

theorem cons_twice : Rows.ConsTwiceSaid :=
  OpenClaim.holds_of_wide 3 Tryd.f3 rfl rfl rfl rfl rfl rfl rfl ⟨rfl, rfl, rfl, rfl, rfl⟩ rfl rfl rfl rfl rfl (by kernel_rfl) Tryd.func3 (by kernel_rfl)
    (of_decide_eq_true (by kernel_rfl)) (by unfold Func.isWrapper; first | (rw [if_pos (by decide +kernel)]; kernel_rfl) | (rw [if_neg (by decide +kernel)]; exact ⟨rfl, rfl⟩))
    (fun os started H enc _ => r_lifted os started H enc)

theorem cons_twice_card : Rows.ConsTwiceCardSaid :=
  Claim7.holds_tied_plain_at .later [] [.sentinel, .sentinel, .sentinel] true Rows.consTwiceCard.stood.harness false
    cons_twice (fun _ h => by cases h) (by kernel_rfl) (fun _ h => by cases h) consTwice_row_tie rfl ⟨rfl, rfl⟩ (by kernel_rfl) rfl
    (fun f fn hf hfn => by
      obtain rfl : f = 3 := Option.some.inj ((show Tryd.prog.funcNamed "paideia/paideialaw11.ConsTwice" = some 3 by kernel_rfl).symm.trans hf) |>.symm
      obtain rfl : fn = Tryd.f3 := (Option.some.inj (Tryd.func3.symm.trans hfn)).symm
      exact ⟨by kernel_rfl, fun j t ht => by
        rw [Tryd.params3] at ht
        rcases j with _ | j
        · obtain rfl : t = 3 := by simpa using ht.symm
          exact (show Tryd.prog.wantsStandIn 3 = false by kernel_rfl)
        · simp at ht⟩)
    (by kernel_rfl)

end Go.Proofs.YthebkhieedogdaaDoor
