/- A list without an end has no text: the fuel, the cells or the bytes are not enough: the law answers true. No condition but what its row lists. -/
import Derived.Test.YtjdkaoiokdfmgaaDoorRtRi
import Derived.Test.YtjdkaoiokdfmgaaDoorAmG
import Derived.Test.YtjdkaoiokdfmgaaDoorAmM
import Derived.Test.YtjdkaoiokdfmgaaDoorRows
import Derived.Test.YtjdkaoiokdfmgaaDoorTie
import Derived.Test.YtjdkaoiokdfmgaaDoorCards
namespace Go.Proofs.YtjdkaoiokdfmgaaDoor
open Go.ChangeShapes Go.WideShapes Go.ChangeAt Go.RowKit Go.Am

theorem r_own : ownKnob Tryd.prog.godebug = none := by kernel_rfl
theorem r_laid : laidOutB Tryd.prog = true := by kernel_rfl
theorem r_mixed : Tryd.prog.follows .mixedOrders = true := Tryd.checked.mixed

noncomputable def r_L : List (String × DataW Unit) := [("math/bits.deBruijn32tab", Rows.laid_math_bits_deBruijn32tab), ("math/bits.deBruijn64tab", Rows.laid_math_bits_deBruijn64tab), ("internal/strconv.uint64pow10", Rows.laid_internal_strconv_uint64pow10), ("paideia/api.ErrLex", Rows.laid_paideia_api_ErrLex), ("paideia/api.ErrParse", Rows.laid_paideia_api_ErrParse), ("paideia/api.ErrScope", Rows.laid_paideia_api_ErrScope), ("paideia/api.ErrTwice", Rows.laid_paideia_api_ErrTwice), ("paideia/api.ErrClass", Rows.laid_paideia_api_ErrClass), ("paideia/api.ErrType", Rows.laid_paideia_api_ErrType), ("paideia/api.ErrOccur", Rows.laid_paideia_api_ErrOccur), ("paideia/api.ErrKind", Rows.laid_paideia_api_ErrKind), ("paideia/api.ErrAmbig", Rows.laid_paideia_api_ErrAmbig), ("paideia/api.ErrNone", Rows.laid_paideia_api_ErrNone), ("paideia/api.ErrLimit", Rows.laid_paideia_api_ErrLimit), ("paideia/api.ErrFuel", Rows.laid_paideia_api_ErrFuel), ("paideia/api.ErrHeap", Rows.laid_paideia_api_ErrHeap), ("paideia/api.ErrBlack", Rows.laid_paideia_api_ErrBlack), ("paideia/api.ErrMatch", Rows.laid_paideia_api_ErrMatch)]

theorem r_met (os : Os) (args : Array Value) : laidMetH Tryd.prog r_L ((World.doorLaid Tryd.prog 309 os).forCall (fun _ _ => 0) ⟨#[], args, []⟩).memory :=
  laidMetH_of_parts3 (fuel := 8) (laidMet_of_run' 8 (by kernel_rfl) (by kernel_rfl)) (by kernel_rfl) (by kernel_rfl)

theorem r_star : "*" ++ "errors.errorString" = "*errors.errorString" := by decide
theorem r_row (u : TypeId) (h : Tryd.prog.typeName? 3 u = some "*errors.errorString") : u = 175 :=
  typeName_ptr_named (nm := "errors.errorString") (by rw [r_star]; kernel_rfl) (by kernel_rfl) (by decide) u (by rw [r_star]; exact h)

noncomputable def r_E : List (String × DataW Unit) := [("paideia/api.ErrLex", Rows.laid_paideia_api_ErrLex), ("paideia/api.ErrParse", Rows.laid_paideia_api_ErrParse), ("paideia/api.ErrScope", Rows.laid_paideia_api_ErrScope), ("paideia/api.ErrTwice", Rows.laid_paideia_api_ErrTwice), ("paideia/api.ErrClass", Rows.laid_paideia_api_ErrClass), ("paideia/api.ErrType", Rows.laid_paideia_api_ErrType), ("paideia/api.ErrOccur", Rows.laid_paideia_api_ErrOccur), ("paideia/api.ErrKind", Rows.laid_paideia_api_ErrKind), ("paideia/api.ErrAmbig", Rows.laid_paideia_api_ErrAmbig), ("paideia/api.ErrNone", Rows.laid_paideia_api_ErrNone), ("paideia/api.ErrLimit", Rows.laid_paideia_api_ErrLimit), ("paideia/api.ErrFuel", Rows.laid_paideia_api_ErrFuel), ("paideia/api.ErrHeap", Rows.laid_paideia_api_ErrHeap), ("paideia/api.ErrBlack", Rows.laid_paideia_api_ErrBlack), ("paideia/api.ErrMatch", Rows.laid_paideia_api_ErrMatch)]

theorem r_gokE {W : World} (h : laidMetH Tryd.prog r_L W) : GOk [0, 1, 3, 4, 5, 6, 7, 8, 9, 10, 11, 12, 13, 14, 15, 1000175] (gh0 W) W := by
  have h := laidMetH.filter (fun x => x.1 == "paideia/api.ErrLex" || x.1 == "paideia/api.ErrParse" || x.1 == "paideia/api.ErrScope" || x.1 == "paideia/api.ErrTwice" || x.1 == "paideia/api.ErrClass" || x.1 == "paideia/api.ErrType" || x.1 == "paideia/api.ErrOccur" || x.1 == "paideia/api.ErrKind" || x.1 == "paideia/api.ErrAmbig" || x.1 == "paideia/api.ErrNone" || x.1 == "paideia/api.ErrLimit" || x.1 == "paideia/api.ErrFuel" || x.1 == "paideia/api.ErrHeap" || x.1 == "paideia/api.ErrBlack" || x.1 == "paideia/api.ErrMatch") h
  have e0 : r_L.filter (fun x => x.1 == "paideia/api.ErrLex" || x.1 == "paideia/api.ErrParse" || x.1 == "paideia/api.ErrScope" || x.1 == "paideia/api.ErrTwice" || x.1 == "paideia/api.ErrClass" || x.1 == "paideia/api.ErrType" || x.1 == "paideia/api.ErrOccur" || x.1 == "paideia/api.ErrKind" || x.1 == "paideia/api.ErrAmbig" || x.1 == "paideia/api.ErrNone" || x.1 == "paideia/api.ErrLimit" || x.1 == "paideia/api.ErrFuel" || x.1 == "paideia/api.ErrHeap" || x.1 == "paideia/api.ErrBlack" || x.1 == "paideia/api.ErrMatch") = r_E := by kernel_rfl
  rw [e0, MakeChecks.laidMetH_plain _ _ _ (by kernel_rfl)] at h
  obtain ⟨ps, hv, hnd, rows⟩ := h
  have e : r_E = (r_E.map fun x => (x.1, textOf x.2)).map (asErr "*errors.errorString") := by kernel_rfl
  rw [e] at hv
  obtain ⟨al, he⟩ := errs_of (ti := 32) (tp := 175) (te := 191) (ts := 9) Tryd.underlying32 r_row Tryd.underlying175 Tryd.underlying191 rfl rfl Tryd.underlying9 (by kernel_rfl) (by kernel_rfl) rows
    (r_E.map fun x => (x.1, textOf x.2)) [5, 6, 7, 8, 9, 10, 11, 12, 13, 14, 0, 3, 15, 4, 1] ps hv (fun _ h => h) hnd (by kernel_rfl) (fun g hg => by
      simp only [List.mem_cons, List.not_mem_nil, or_false] at hg
      rcases hg with rfl | rfl | rfl | rfl | rfl | rfl | rfl | rfl | rfl | rfl | rfl | rfl | rfl | rfl | rfl <;> kernel_rfl)
  exact gok_errs he (by decide) (fun (te : Nat) ht => by
    simp only [List.mem_cons, List.not_mem_nil, or_false] at ht
    show (te : Nat) = 175
    omega)

theorem r_pow {W : World} (h : laidMetH Tryd.prog r_L W) : Lib.TabIs Tryd.prog W "internal/strconv.uint64pow10" .u64 Lib.pow10Tab := by
  have h1 := laidMetH.filter (fun x => x.1 == "internal/strconv.uint64pow10") h
  have e : r_L.filter (fun x => x.1 == "internal/strconv.uint64pow10") = [("internal/strconv.uint64pow10", Lib.tabData .u64 Lib.pow10Tab)] := by kernel_rfl
  rw [e, MakeChecks.laidMetH_plain _ _ _ (by kernel_rfl)] at h1
  exact Lib.tabIs_of_head (g := 2) (by kernel_rfl) (t := 132) (by kernel_rfl) Tryd.underlying132 Tryd.underlying90 (by kernel_rfl) (by kernel_rfl) h1

theorem r_gok {W : World} (h : laidMetH Tryd.prog r_L W) : GOk [0, 1, 3, 4, 5, 6, 7, 8, 9, 10, 11, 12, 13, 14, 15, 1000175, 2000002] (gh0 W) W := by
  refine GOk.more (KE := [0, 1, 3, 4, 5, 6, 7, 8, 9, 10, 11, 12, 13, 14, 15, 1000175]) (KT := [2000002]) (r_gokE h) (by decide) (by decide) (fun g hl hg => ?_) (fun g hl hg => ?_)
  · simp only [List.mem_cons, List.not_mem_nil, or_false] at hg
    obtain rfl : g = 2 := by omega
    exact tabAt_pow (by kernel_rfl) (r_pow h)
  · simp only [List.mem_cons, List.not_mem_nil, or_false] at hg
    omega

set_option maxRecDepth 100000 in
theorem r_lifted (os : Os) (started : os.Started) (H : Type) (enc : TypeId × Value → H) :
    ReturnsInHanded {} Tryd.checked os 4 .any (fun w args => (Rows.forceEndlessSpec.pre enc Tryd.prog Tryd.f4 [] false w args ∧ laidMetH Tryd.prog r_L w) ∧ sizedMet enc Tryd.prog Tryd.f4 (OpenSpec.ofChange Rows.forceEndlessSpec) false w args)
      (Rows.forceEndlessSpec.post enc Tryd.prog Tryd.f4 false true false false) := by
  refine returnsInHanded_of_change_and (C := Tryd.checked) (X := fun w _ => laidMetH Tryd.prog r_L w) (fun _ _ _ hh h => h.of_heap hh) r_own started (by kernel_rfl) Tryd.func4
    (ChangeSpec.witness_shaped (enc := enc) (C := Tryd.checked) (os := os) (X := fun w _ => laidMetH Tryd.prog r_L w) false (World.doorLaid Tryd.prog 309 os) #[.int .i64 0, .int .i64 0] 8 rfl (World.shaped_of_RefB (by kernel_rfl) (by kernel_rfl)) (by kernel_rfl) (by kernel_rfl) (by kernel_rfl) (r_met os _)) ?_
  intro W base args ds gs before hval0 hW _ _ hL _
  have hval : ∀ (j : Nat) t v, Tryd.f4.params[j]? = some t → args[j]? = some v → Value.okWide Tryd.prog W .any base t v := hval0
  have hW' : DataW.Whole enc Tryd.prog Tryd.f4.params.toList Rows.forceEndlessSpec.vars false W args.toList ds gs before := hW
  obtain ⟨p, q, hA0, hV, rfl, hfz, hnd⟩ := hW
  have hA : DataW.TrodAll enc Tryd.prog W 0 (fun _ => true) true Tryd.f4.params.toList args.toList ds p := hA0
  rw [Tryd.params4] at hA hval
  obtain ⟨v0, v1, d0, d1, p0, p1, rfl, rfl, rfl, h0, h1⟩ := trodAll_two hA
  obtain ⟨a0, r0, l0⟩ := arg_int Tryd.underlying3 (hval 0 3 v0 rfl rfl) h0
  obtain ⟨a1, r1, l1⟩ := arg_int Tryd.underlying3 (hval 1 3 v1 rfl rfl) h1
  have hargs : ArgsRel (gh0 W) W [.int .i64 a0, .int .i64 a1] #[v0, v1] := by
    refine ⟨rfl, rfl, fun i x u hx hu => ?_⟩
    match i with
    | 0 => cases hx; cases hu; exact r0
    | 1 => cases hx; cases hu; exact r1
    | i + 2 => simp at hx
  refine (entryG r_mixed Go.Rt.tableOk Tryd.func4 (by kernel_rfl) (by kernel_rfl) hargs (r_gok hL) (Go.Rt.forceEndless a0 a1)).mono ?_
  rintro e W' ⟨rfl, hb⟩
  refine ⟨_, rfl, post_true r_laid hW' hb (tb := 4) (by kernel_rfl) Tryd.underlying4 (by kernel_rfl) rfl ?_⟩
  rintro rfl
  exact ⟨rfl, rfl, rfl⟩

theorem force_endless : Rows.ForceEndlessSaid :=
  OpenClaim.holds_of_wide 4 Tryd.f4 rfl rfl rfl rfl rfl rfl rfl ⟨rfl, rfl, rfl, rfl, rfl⟩ rfl rfl rfl rfl rfl (by kernel_rfl) Tryd.func4 (by kernel_rfl)
    (of_decide_eq_true (by kernel_rfl)) (by unfold Func.isWrapper; first | (rw [if_pos (by decide +kernel)]; kernel_rfl) | (rw [if_neg (by decide +kernel)]; exact ⟨rfl, rfl⟩))
    (fun os started H enc _ => r_lifted os started H enc)

theorem force_endless_card : Rows.ForceEndlessCardSaid :=
  Claim7.holds_tied_plain_at .later [] [.data, .data, .data, .sentinel, .sentinel, .sentinel, .sentinel, .sentinel, .sentinel, .sentinel, .sentinel, .sentinel, .sentinel, .sentinel, .sentinel, .sentinel, .sentinel, .sentinel] true Rows.forceEndlessCard.stood.harness true
    force_endless (fun _ h => by cases h) (by kernel_rfl) (fun _ h => by cases h) forceEndless_row_tie rfl ⟨rfl, rfl⟩ (by kernel_rfl) rfl
    (fun f fn hf hfn => by
      obtain rfl : f = 4 := Option.some.inj ((show Tryd.prog.funcNamed "paideia/paideialaw26.ForceEndless" = some 4 by kernel_rfl).symm.trans hf) |>.symm
      obtain rfl : fn = Tryd.f4 := (Option.some.inj (Tryd.func4.symm.trans hfn)).symm
      exact ⟨by kernel_rfl, fun j t ht => by
        rw [Tryd.params4] at ht
        rcases j with _ | _ | j
        · obtain rfl : t = 3 := by simpa using ht.symm
          exact (show Tryd.prog.wantsStandIn 3 = false by kernel_rfl)
        · obtain rfl : t = 3 := by simpa using ht.symm
          exact (show Tryd.prog.wantsStandIn 3 = false by kernel_rfl)
        · simp at ht⟩)
    (by kernel_rfl)

end Go.Proofs.YtjdkaoiokdfmgaaDoor
