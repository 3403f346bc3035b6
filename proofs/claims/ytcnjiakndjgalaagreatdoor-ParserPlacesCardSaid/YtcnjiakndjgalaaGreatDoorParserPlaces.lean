/- The law of places answers true whatever the number is. No condition but what its row lists. -/
import Derived.Test.YtcnjiakndjgalaaGreatDoorQtPe
import Derived.Test.YtcnjiakndjgalaaGreatDoorAmG
import Derived.Test.YtcnjiakndjgalaaGreatDoorAmM
import Derived.Test.YtcnjiakndjgalaaGreatDoorRows
import Derived.Test.YtcnjiakndjgalaaGreatDoorTie
import Derived.Test.YtcnjiakndjgalaaGreatDoorCards
namespace Go.Proofs.YtcnjiakndjgalaaGreatDoor
open Go.ChangeShapes Go.WideShapes Go.ChangeAt Go.RowKit Go.Am

theorem r_own : ownKnob Tryz.prog.godebug = none := by kernel_rfl
theorem r_laid : laidOutB Tryz.prog = true := by kernel_rfl
theorem r_mixed : Tryz.prog.follows .mixedOrders = true := Tryz.checked.mixed

noncomputable def r_L : List (String × DataW Unit) := [("math/bits.deBruijn32tab", Rows.laid_math_bits_deBruijn32tab), ("math/bits.deBruijn64tab", Rows.laid_math_bits_deBruijn64tab), ("internal/strconv.uint64pow10", Rows.laid_internal_strconv_uint64pow10), ("strconv.ErrRange", Rows.laid_strconv_ErrRange), ("strconv.ErrSyntax", Rows.laid_strconv_ErrSyntax), ("paideia/api.ErrLex", Rows.laid_paideia_api_ErrLex), ("paideia/api.ErrParse", Rows.laid_paideia_api_ErrParse), ("paideia/api.ErrLimit", Rows.laid_paideia_api_ErrLimit), ("unicode.White_Space", Rows.laid_unicode_White_Space), ("strings.asciiSpace", Rows.laid_strings_asciiSpace)]

theorem r_met (os : Os) (args : Array Value) : laidMetH Tryz.prog r_L ((World.doorLaid Tryz.prog 371 os).forCall (fun _ _ => 0) ⟨#[], args, []⟩).memory :=
  laidMetH_of_parts3 (fuel := 8) (laidMet_of_run' 8 (by kernel_rfl) (by kernel_rfl)) (by kernel_rfl) (by kernel_rfl)

theorem r_gokE {W : World} (h : laidMetH Tryz.prog r_L W) : GOk [3, 4, 5] (gh0 W) W := gok_of (by intro g hg; simp at hg; omega) fun g hg => by
  simp only [List.mem_cons, List.not_mem_nil, or_false] at hg
  rcases hg with rfl | rfl | rfl
  · exact cells_of_laid (by kernel_rfl) h (n := "paideia/api.ErrParse") (List.mem_cons_of_mem _ (List.mem_cons_of_mem _ (List.mem_cons_of_mem _ (List.mem_cons_of_mem _ (List.mem_cons_of_mem _ (List.mem_cons_of_mem _ (List.mem_cons_self ..))))))) (by kernel_rfl) (t := 47) (by kernel_rfl) Tryz.underlying47
  · exact cells_of_laid (by kernel_rfl) h (n := "paideia/api.ErrLimit") (List.mem_cons_of_mem _ (List.mem_cons_of_mem _ (List.mem_cons_of_mem _ (List.mem_cons_of_mem _ (List.mem_cons_of_mem _ (List.mem_cons_of_mem _ (List.mem_cons_of_mem _ (List.mem_cons_self ..)))))))) (by kernel_rfl) (t := 47) (by kernel_rfl) Tryz.underlying47
  · exact cells_of_laid (by kernel_rfl) h (n := "paideia/api.ErrLex") (List.mem_cons_of_mem _ (List.mem_cons_of_mem _ (List.mem_cons_of_mem _ (List.mem_cons_of_mem _ (List.mem_cons_of_mem _ (List.mem_cons_self ..)))))) (by kernel_rfl) (t := 47) (by kernel_rfl) Tryz.underlying47

theorem r_spc {W : World} (h : laidMetH Tryz.prog r_L W) : Lib.TabIs Tryz.prog W "strings.asciiSpace" .u8 Lib.asciiSpaceTab := by
  have h1 := laidMetH.filter (fun x => x.1 == "strings.asciiSpace") h
  have e : r_L.filter (fun x => x.1 == "strings.asciiSpace") = [("strings.asciiSpace", Lib.tabData .u8 Lib.asciiSpaceTab)] := by kernel_rfl
  rw [e, MakeChecks.laidMetH_plain _ _ _ (by kernel_rfl)] at h1
  exact Lib.tabIs_of_head (g := 15) (by kernel_rfl) (t := 282) (by kernel_rfl) Tryz.underlying282 Tryz.underlying5 (by kernel_rfl) (by kernel_rfl) h1

theorem r_gok {W : World} (h : laidMetH Tryz.prog r_L W) (hs : W.ShapedOpen Tryz.prog) : GOk [3, 4, 5, 3000015, 4000017] (gh0 W) W := by
  refine GOk.more (KE := [3, 4, 5]) (KT := [3000015, 4000017]) (r_gokE h) (by decide) (by decide) (fun g hl hg => ?_) (fun g hl hg => ?_) fun g hl hg => ?_
  · simp only [List.mem_cons, List.not_mem_nil, or_false] at hg
    omega
  · simp only [List.mem_cons, List.not_mem_nil, or_false] at hg
    obtain rfl : g = 15 := by omega
    exact tabAt_spc (by kernel_rfl) (r_spc h)
  · simp only [List.mem_cons, List.not_mem_nil, or_false] at hg
    obtain rfl : g = 17 := by omega
    exact intAt_of (t := 3) (zero := #[.int .i64 0]) hs (of_decide_eq_true (by kernel_rfl)) (by kernel_rfl) rfl (by kernel_rfl) (by kernel_rfl) Tryz.underlying3

set_option maxRecDepth 100000 in
theorem r_lifted (os : Os) (started : os.Started) (H : Type) (enc : TypeId × Value → H) :
    ReturnsInHanded {} Tryz.checked os 5 .any (fun w args => (Rows.parserPlacesSpec.pre enc Tryz.prog Tryz.f5 [] false w args ∧ laidMetH Tryz.prog r_L w) ∧ sizedMet enc Tryz.prog Tryz.f5 (OpenSpec.ofChange Rows.parserPlacesSpec) false w args)
      (Rows.parserPlacesSpec.post enc Tryz.prog Tryz.f5 false true false false) := by
  refine returnsInHanded_of_change_and_shaped (C := Tryz.checked) (X := fun w _ => laidMetH Tryz.prog r_L w) (fun _ _ _ hh h => h.of_heap hh) r_own started (by kernel_rfl) Tryz.func5
    (ChangeSpec.witness_shaped (enc := enc) (C := Tryz.checked) (os := os) (X := fun w _ => laidMetH Tryz.prog r_L w) false (World.doorLaid Tryz.prog 371 os) #[.int .i64 0] 8 rfl (World.shaped_of_RefB (by kernel_rfl) (by kernel_rfl)) (by kernel_rfl) (by kernel_rfl) (by kernel_rfl) (r_met os _)) ?_
  intro W base args ds gs before hval0 hW _ _ hL hSh _
  have hval : ∀ (j : Nat) t v, Tryz.f5.params[j]? = some t → args[j]? = some v → Value.okWide Tryz.prog W .any base t v := hval0
  have hW' : DataW.Whole enc Tryz.prog Tryz.f5.params.toList Rows.parserPlacesSpec.vars false W args.toList ds gs before := hW
  obtain ⟨p, q, hA0, hV, rfl, hfz, hnd⟩ := hW
  have hA : DataW.TrodAll enc Tryz.prog W 0 (fun _ => true) true Tryz.f5.params.toList args.toList ds p := hA0
  rw [Tryz.params5] at hA hval
  obtain ⟨v0, d0, rfl, rfl, h0⟩ := trodAll_one hA
  obtain ⟨a0, r0, l0⟩ := arg_int Tryz.underlying3 (hval 0 3 v0 rfl rfl) h0
  have hargs : ArgsRel (gh0 W) W [.int .i64 a0] #[v0] := by
    refine ⟨rfl, rfl, fun i x u hx hu => ?_⟩
    match i with
    | 0 => cases hx; cases hu; exact r0
    | i + 1 => simp at hx
  refine (entryG r_mixed Go.Qt.tableOk Tryz.func5 (by kernel_rfl) (by kernel_rfl) hargs (r_gok hL hSh) (Go.Qt.parserPlaces a0)).mono ?_
  rintro e W' ⟨rfl, hb⟩
  refine ⟨_, rfl, post_true r_laid hW' hb (tb := 4) (by kernel_rfl) Tryz.underlying4 (by kernel_rfl) rfl ?_⟩
  rintro rfl
  exact ⟨rfl, rfl, rfl⟩

theorem parser_places : Rows.ParserPlacesSaid :=
  OpenClaim.holds_of_wide 5 Tryz.f5 rfl rfl rfl rfl rfl rfl rfl ⟨rfl, rfl, rfl, rfl, rfl⟩ rfl rfl rfl rfl rfl (by kernel_rfl) Tryz.func5 (by kernel_rfl)
    (of_decide_eq_true (by kernel_rfl)) (by unfold Func.isWrapper; first | (rw [if_pos (by decide +kernel)]; kernel_rfl) | (rw [if_neg (by decide +kernel)]; exact ⟨rfl, rfl⟩))
    (fun os started H enc _ => r_lifted os started H enc)

theorem parser_places_card : Rows.ParserPlacesCardSaid :=
  Claim7.holds_tied_plain_at .later [] [.data, .data, .data, .sentinel, .sentinel, .sentinel, .sentinel, .sentinel, .listed, .data] true Rows.parserPlacesCard.stood.harness true
    parser_places (fun _ h => by cases h) (by kernel_rfl) (fun _ h => by cases h) parserPlaces_row_tie rfl ⟨rfl, rfl⟩ (by kernel_rfl) rfl
    (fun f fn hf hfn => by
      obtain rfl : f = 5 := Option.some.inj ((show Tryz.prog.funcNamed "paideia/paideialaw3.ParserPlaces" = some 5 by kernel_rfl).symm.trans hf) |>.symm
      obtain rfl : fn = Tryz.f5 := (Option.some.inj (Tryz.func5.symm.trans hfn)).symm
      exact ⟨by kernel_rfl, fun j t ht => by
        rw [Tryz.params5] at ht
        rcases j with _ | j
        · obtain rfl : t = 3 := by simpa using ht.symm
          exact (show Tryz.prog.wantsStandIn 3 = false by kernel_rfl)
        · simp at ht⟩)
    (by kernel_rfl)

end Go.Proofs.YtcnjiakndjgalaaGreatDoor
