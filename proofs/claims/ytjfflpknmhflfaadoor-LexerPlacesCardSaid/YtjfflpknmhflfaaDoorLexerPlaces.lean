/- Between the words of a text lie blanks and remarks alone, and each word stands in the text where it says. No condition but what its row lists. -/
import Derived.Test.YtjfflpknmhflfaaDoorLtLj
import Derived.Test.YtjfflpknmhflfaaDoorAmG
import Derived.Test.YtjfflpknmhflfaaDoorAmM
import Derived.Test.YtjfflpknmhflfaaDoorRows
import Derived.Test.YtjfflpknmhflfaaDoorTie
import Derived.Test.YtjfflpknmhflfaaDoorCards
namespace Go.Proofs.YtjfflpknmhflfaaDoor
open Go.ChangeShapes Go.WideShapes Go.ChangeAt Go.RowKit Go.Am

theorem r_own : ownKnob Tryd.prog.godebug = none := by kernel_rfl
theorem r_laid : laidOutB Tryd.prog = true := by kernel_rfl
theorem r_mixed : Tryd.prog.follows .mixedOrders = true := Tryd.checked.mixed

noncomputable def r_L : List (String × DataW Unit) := [("math/bits.deBruijn32tab", Rows.laid_math_bits_deBruijn32tab), ("math/bits.deBruijn64tab", Rows.laid_math_bits_deBruijn64tab), ("internal/strconv.uint64pow10", Rows.laid_internal_strconv_uint64pow10), ("strconv.ErrRange", Rows.laid_strconv_ErrRange), ("strconv.ErrSyntax", Rows.laid_strconv_ErrSyntax), ("paideia/api.ErrLex", Rows.laid_paideia_api_ErrLex), ("paideia/api.ErrLimit", Rows.laid_paideia_api_ErrLimit), ("unicode.White_Space", Rows.laid_unicode_White_Space), ("strings.asciiSpace", Rows.laid_strings_asciiSpace)]

theorem r_met (os : Os) (args : Array Value) : laidMetH Tryd.prog r_L ((World.doorLaid Tryd.prog 371 os).forCall (fun _ _ => 0) ⟨#[], args, []⟩).memory :=
  laidMetH_of_parts3 (fuel := 8) (laidMet_of_run' 8 (by kernel_rfl) (by kernel_rfl)) (by kernel_rfl) (by kernel_rfl)

theorem r_gokE {W : World} (h : laidMetH Tryd.prog r_L W) : GOk [0, 1] (gh0 W) W := gok_of (by intro g hg; simp at hg; omega) fun g hg => by
  simp only [List.mem_cons, List.not_mem_nil, or_false] at hg
  rcases hg with rfl | rfl
  · exact cells_of_laid (by kernel_rfl) h (n := "paideia/api.ErrLimit") (List.mem_cons_of_mem _ (List.mem_cons_of_mem _ (List.mem_cons_of_mem _ (List.mem_cons_of_mem _ (List.mem_cons_of_mem _ (List.mem_cons_of_mem _ (List.mem_cons_self ..))))))) (by kernel_rfl) (t := 26) (by kernel_rfl) Tryd.underlying26
  · exact cells_of_laid (by kernel_rfl) h (n := "paideia/api.ErrLex") (List.mem_cons_of_mem _ (List.mem_cons_of_mem _ (List.mem_cons_of_mem _ (List.mem_cons_of_mem _ (List.mem_cons_of_mem _ (List.mem_cons_self ..)))))) (by kernel_rfl) (t := 26) (by kernel_rfl) Tryd.underlying26

theorem r_spc {W : World} (h : laidMetH Tryd.prog r_L W) : Lib.TabIs Tryd.prog W "strings.asciiSpace" .u8 Lib.asciiSpaceTab := by
  have h1 := laidMetH.filter (fun x => x.1 == "strings.asciiSpace") h
  have e : r_L.filter (fun x => x.1 == "strings.asciiSpace") = [("strings.asciiSpace", Lib.tabData .u8 Lib.asciiSpaceTab)] := by kernel_rfl
  rw [e, MakeChecks.laidMetH_plain _ _ _ (by kernel_rfl)] at h1
  exact Lib.tabIs_of_head (g := 2) (by kernel_rfl) (t := 79) (by kernel_rfl) Tryd.underlying79 Tryd.underlying5 (by kernel_rfl) (by kernel_rfl) h1

theorem r_gok {W : World} (h : laidMetH Tryd.prog r_L W) (hs : W.ShapedOpen Tryd.prog) : GOk [0, 1, 3000002, 4000017] (gh0 W) W := by
  refine GOk.more (KE := [0, 1]) (KT := [3000002, 4000017]) (r_gokE h) (by decide) (by decide) (fun g hl hg => ?_) (fun g hl hg => ?_) fun g hl hg => ?_
  · simp only [List.mem_cons, List.not_mem_nil, or_false] at hg
    omega
  · simp only [List.mem_cons, List.not_mem_nil, or_false] at hg
    obtain rfl : g = 2 := by omega
    exact tabAt_spc (by kernel_rfl) (r_spc h)
  · simp only [List.mem_cons, List.not_mem_nil, or_false] at hg
    obtain rfl : g = 17 := by omega
    exact intAt_of (t := 3) (zero := #[.int .i64 0]) hs (of_decide_eq_true (by kernel_rfl)) (by kernel_rfl) rfl (by kernel_rfl) (by kernel_rfl) Tryd.underlying3

set_option maxRecDepth 100000 in
theorem r_lifted (os : Os) (started : os.Started) (H : Type) (enc : TypeId × Value → H) :
    ReturnsInHanded {} Tryd.checked os 3 .any (fun w args => (Rows.lexerPlacesSpec.pre enc Tryd.prog Tryd.f3 [] false w args ∧ laidMetH Tryd.prog r_L w) ∧ sizedMet enc Tryd.prog Tryd.f3 (OpenSpec.ofChange Rows.lexerPlacesSpec) false w args)
      (Rows.lexerPlacesSpec.post enc Tryd.prog Tryd.f3 false true false false) := by
  refine returnsInHanded_of_change_and_shaped (C := Tryd.checked) (X := fun w _ => laidMetH Tryd.prog r_L w) (fun _ _ _ hh h => h.of_heap hh) r_own started (by kernel_rfl) Tryd.func3
    (ChangeSpec.witness_shaped (enc := enc) (C := Tryd.checked) (os := os) (X := fun w _ => laidMetH Tryd.prog r_L w) false (World.doorLaid Tryd.prog 371 os) #[.slice none 0 0] 8 rfl (World.shaped_of_RefB (by kernel_rfl) (by kernel_rfl)) (by kernel_rfl) (by kernel_rfl) (by kernel_rfl) (r_met os _)) ?_
  intro W base args ds gs before hval0 hW _ _ hL hSh _
  have hval : ∀ (j : Nat) t v, Tryd.f3.params[j]? = some t → args[j]? = some v → Value.okWide Tryd.prog W .any base t v := hval0
  have hW' : DataW.Whole enc Tryd.prog Tryd.f3.params.toList Rows.lexerPlacesSpec.vars false W args.toList ds gs before := hW
  obtain ⟨p, q, hA0, hV, rfl, hfz, hnd⟩ := hW
  have hA : DataW.TrodAll enc Tryd.prog W 0 (fun _ => true) true Tryd.f3.params.toList args.toList ds p := hA0
  rw [Tryd.params3] at hA hval
  obtain ⟨v0, d0, rfl, rfl, h0⟩ := trodAll_one hA
  obtain ⟨a0, r0, l0, w0⟩ := arg_ints Tryd.underlying22 Tryd.underlying5 (by kernel_rfl) (hval 0 22 v0 rfl rfl) h0
  obtain ⟨b0, e0⟩ := bytes_of w0
  rw [e0] at r0
  have hargs : ArgsRel (gh0 W) W [.sl .frozen (b0.map fun c => .int .u8 c.toNat)] #[v0] := by
    refine ⟨rfl, rfl, fun i x u hx hu => ?_⟩
    match i with
    | 0 => cases hx; cases hu; exact r0
    | i + 1 => simp at hx
  refine (entryG r_mixed Go.Lt.tableOk Tryd.func3 (by kernel_rfl) (by kernel_rfl) hargs (r_gok hL hSh) (Go.Lt.lexerPlaces b0)).mono ?_
  rintro e W' ⟨rfl, hb⟩
  refine ⟨_, rfl, post_true r_laid hW' hb (tb := 4) (by kernel_rfl) Tryd.underlying4 (by kernel_rfl) rfl ?_⟩
  rintro rfl
  exact ⟨rfl, rfl, rfl⟩

theorem lexer_places : Rows.LexerPlacesSaid :=
  OpenClaim.holds_of_wide 3 Tryd.f3 rfl rfl rfl rfl rfl rfl rfl ⟨rfl, rfl, rfl, rfl, rfl⟩ rfl rfl rfl rfl rfl (by kernel_rfl) Tryd.func3 (by kernel_rfl)
    (of_decide_eq_true (by kernel_rfl)) (by unfold Func.isWrapper; first | (rw [if_pos (by decide +kernel)]; kernel_rfl) | (rw [if_neg (by decide +kernel)]; exact ⟨rfl, rfl⟩))
    (fun os started H enc _ => r_lifted os started H enc)

theorem lexer_places_card : Rows.LexerPlacesCardSaid :=
  Claim7.holds_tied_plain_at .later [] [.data, .data, .data, .sentinel, .sentinel, .sentinel, .sentinel, .listed, .data] true Rows.lexerPlacesCard.stood.harness true
    lexer_places (fun _ h => by cases h) (by kernel_rfl) (fun _ h => by cases h) lexerPlaces_row_tie rfl ⟨rfl, rfl⟩ (by kernel_rfl) rfl
    (fun f fn hf hfn => by
      obtain rfl : f = 3 := Option.some.inj ((show Tryd.prog.funcNamed "paideia/paideialaw1.LexerPlaces" = some 3 by kernel_rfl).symm.trans hf) |>.symm
      obtain rfl : fn = Tryd.f3 := (Option.some.inj (Tryd.func3.symm.trans hfn)).symm
      exact ⟨by kernel_rfl, fun j t ht => by
        rw [Tryd.params3] at ht
        rcases j with _ | j
        · obtain rfl : t = 22 := by simpa using ht.symm
          exact (show Tryd.prog.wantsStandIn 22 = false by kernel_rfl)
        · simp at ht⟩)
    (by kernel_rfl)

end Go.Proofs.YtjfflpknmhflfaaDoor
