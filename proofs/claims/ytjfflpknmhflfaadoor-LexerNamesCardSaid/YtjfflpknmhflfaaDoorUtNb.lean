/- The law LexerNames on the abstract machine. -/
import Derived.Test.YtjfflpknmhflfaaDoorUtNa
namespace Go.Ut
open Go.Am Go.Proofs
set_option maxRecDepth 100000

/-- The law's name: its first letter, so many behind it. -/
def nmB (up : Bool) (i : Nat) : Bs := (if up then 81 else 113) :: (List.range i).map fun j => ([97, 98, 90, 57, 95, 39, 120] : Bs).getD ((j + 1) % 7) 0

def factN (up : Bool) (i : Nat) : Bool :=
  decide (nameW (nmB up i) = if i < 40 then some (if up then 2 else 1, nmB up i, 0) else none) && lowB (nmB up i) == (!up && decide (i < 40)) && highB (nmB up i) == (up && decide (i < 40)) && (nmB up i).all goesB
theorem facts_all : ((List.range 50).all fun i => factN false i && factN true i) = true := by kernel_rfl
theorem facts (up : Bool) (i : Nat) (hi : i < 50) : factN up i = true := by
  have := List.all_eq_true.1 facts_all i (List.mem_range.2 hi)
  simp only [Bool.and_eq_true] at this
  cases up
  · exact this.1
  · exact this.2
theorem fact_name {up : Bool} {i : Nat} (hi : i < 50) : nameW (nmB up i) = if i < 40 then some (if up then 2 else 1, nmB up i, 0) else none := by
  have := facts up i hi
  simp only [factN, Bool.and_eq_true, decide_eq_true_eq] at this
  exact this.1.1.1
theorem fact_low {up : Bool} {i : Nat} (hi : i < 50) : lowB (nmB up i) = (!up && decide (i < 40)) := by
  have := facts up i hi
  simp only [factN, Bool.and_eq_true, decide_eq_true_eq, beq_iff_eq] at this
  exact this.1.1.2
theorem fact_high {up : Bool} {i : Nat} (hi : i < 50) : highB (nmB up i) = (up && decide (i < 40)) := by
  have := facts up i hi
  simp only [factN, Bool.and_eq_true, decide_eq_true_eq, beq_iff_eq] at this
  exact this.1.2
theorem fact_goes {up : Bool} {i : Nat} (hi : i < 50) : ∀ x ∈ nmB up i, goesB x = true := by
  have := facts up i hi
  simp only [factN, Bool.and_eq_true, decide_eq_true_eq, beq_iff_eq] at this
  exact List.all_eq_true.1 this.2
theorem nm_head (up : Bool) (i : Nat) : (nmB up i).head?.any (fun c => isSm c || isGr c) = true := by cases up <;> rfl
theorem nm_blank (up : Bool) (i : Nat) (r : Bs) : blankN (nmB up i ++ r) = 0 := by cases up <;> simp [nmB, blankN]
theorem nm_ne (up : Bool) (i : Nat) (r : Bs) : nmB up i ++ r ≠ [] := by simp [nmB]
theorem nm_len (up : Bool) (i : Nat) : (nmB up i).length = i + 1 := by simp [nmB]
theorem nm_succ (up : Bool) (i : Nat) : nmB up (i + 1) = nmB up i ++ [([97, 98, 90, 57, 95, 39, 120] : Bs).getD ((i + 1) % 7) 0] := by simp [nmB, List.range_succ]

theorem lexName {up : Bool} {i : Nat} (hi : i < 50) : lexF ((nmB up i).length + 1) 0 (nmB up i) = if i < 40 then ([⟨if up then 2 else 1, 0, nmB up i, 0⟩], none) else ([], some 0) := by
  have hw := word_end (fact_goes hi) (nm_head up i)
  rw [fact_name hi] at hw
  have hb := nm_blank up i []
  have hne := nm_ne up i []
  rw [List.append_nil] at hb hne
  by_cases h : i < 40
  · rw [if_pos h] at hw ⊢
    rw [lex_word hb hw, List.drop_length, lex_nil]
  · rw [if_neg h] at hw ⊢
    simp only [lexF]
    rw [if_neg hne, if_neg (by rw [hb]; omega), hw]

theorem lexName2 {up : Bool} {i : Nat} (hi : i < 40) (m : UInt8) : ∃ r e, lexF ((nmB up i ++ [32, m]).length + 1) 0 (nmB up i ++ [32, m]) = (⟨if up then 2 else 1, 0, nmB up i, 0⟩ :: r, e) := by
  have hw := word_name (r := [m]) (d := 32) (by decide) (fact_goes (up := up) (show i < 50 by omega)) (nm_head up i)
  rw [fact_name (by omega), if_pos hi] at hw
  exact ⟨_, _, lex_word (nm_blank up i _) hw⟩

theorem ran {R : Option (V × List Ob)} {v : V} {o : Ob} (e : (R.map fun x => (x.1, x.2.head?)) = some (v, some o)) : ∃ tl, R = some (v, [o] ++ tl) := by
  match R, e with
  | some (v', o' :: tl), e =>
    simp only [Option.map_some, List.head?_cons, Option.some.injEq, Prod.mk.injEq] at e
    exact ⟨tl, by rw [e.1, e.2]; rfl⟩
  | some (v', []), e => simp at e
  | none, e => simp at e

theorem split_q (up : Bool) {Q : V → List Ob → Prop} (hq : ∀ tl, Q (.tup [.sl .frozen [tkV ⟨if up then 2 else 1, 0, nmB up 0, 0⟩], .nili]) ([.box (bV (nmB up 0))] ++ tl)) : CallA ap 10 0 [0] [.msl 0 0 1 1 1] [.box (bV (nmB up 0))] Q := by
  have key : ∀ (k : Int) (c : UInt8), ((xBody ap (xFuel ap 3000) 10 0 [0] [.msl 0 0 1 1 1] [.box (bV [c])]).map fun x => (x.1, x.2.head?)) = some (.tup [.sl .frozen [tkV ⟨k, 0, [c], 0⟩], .nili], some (.box (bV [c]))) → (∀ tl, Q (.tup [.sl .frozen [tkV ⟨k, 0, [c], 0⟩], .nili]) ([.box (bV [c])] ++ tl)) → CallA ap 10 0 [0] [.msl 0 0 1 1 1] [.box (bV [c])] Q := fun k c e hq => by
    obtain ⟨tl, e⟩ := ran e
    exact xBody_ok (xFuel_ok ap 3000) e (hq tl)
  cases up
  · exact key 1 113 (by kernel_rfl) hq
  · exact key 2 81 (by kernel_rfl) hq

def RowN (B : Bs) (v : V) (h : List Ob) : Prop := (B.length = 1 ∧ v = .msl 0 0 1 1 1 ∧ h = [.box (bV B)]) ∨ ∃ q, v = .sl (.fam q) (bV B) ∧ h[q]? = some (.fam B.length 1)

def nmS : AC := match ac5.body with
  | .seq _ (.seq _ (.seq _ (.seq _ (.seq _ (.seq _ (.seq (.seq _ (.block _ l)) t)))))) => .seq l t
  | c => c
def nmL : AC := match nmS with | .seq l _ => l | c => c
def nmT : AC := match nmS with | .seq _ t => t | c => c
abbrev QN : AX → St → Prop := retK [.t 6] false true 0 fun v _ => v = .bool true

theorem lb1 : lowB [108, 101, 116] = false := by kernel_rfl
theorem lb2 : lowB [95] = false := by kernel_rfl
theorem lb3 : highB [108, 101, 116] = false := by kernel_rfl
theorem lb4 : resB [111, 102] = true := by kernel_rfl

theorem nameTail (up : Bool) (i : Nat) (m : UInt8) (hi : i < 50) {s : St} (h0 : s.r 0 = .int .i64 (i + 1 : Nat)) (h1 : s.r 1 = .bool up) (h2 : s.r 2 = .int .u8 m.toNat) (h7 : s.r 7 = .bool true) (h8 : RowN (nmB up i) (s.r 8) s.h) :
    wpA (CallA ap) [0] nmT QN s := by
  obtain ⟨r, lo, h'⟩ := s
  simp only at h0 h1 h2 h7 h8
  simp only [nmT, nmS, ac5]
  rcases h8 with ⟨hl, h8, rfl⟩ | ⟨q, h8, hq⟩
  · rw [nm_len] at hl
    have : i = 0 := by omega
    subst this
    have e1 : bytesV (.sl .clip (bV (nmB up 0))) = some (nmB up 0) := bV_text _ _
    have e3 : rdO 0 1 1 (some (.box (bV (nmB up 0)))) = .sl .clip (bV (nmB up 0)) := by
      rw [rd_box _ _ _ _ (by simp [bV_len, nm_len])]
      simp
      exact List.take_of_length_le (by simp [bV_len, nm_len])
    simp [h8]
    refine split_q up fun tl => ?_
    simp [h0, h1, h2, h7, h8, e1, e3]
    refine high15 _ (by simp [nm_len]) ?_
    rw [fact_high hi]
    simp [h0, h1, h2, h7, h8, e1, e3]
    refine low14 _ (by simp [nm_len]) ?_
    rw [fact_low hi]
    simp [h0, h1, h2, h7, h8, e1, e3, k_appE]
    have e6 : bV (nmB up 0) ++ [V.int .u8 32, V.int .u8 m.toNat] = bV (nmB up 0 ++ [32, m]) := by simp [bV]
    refine ⟨fun v hv => ?_, by rw [bV_len, nm_len]; decide, ?_⟩
    · rcases hv with hv | rfl | rfl
      · obtain ⟨x, _, rfl⟩ := List.mem_map.1 hv
        rfl
      · rfl
      · rfl
    rw [e6, bV_dem]
    obtain ⟨rr, ee, hlx⟩ := lexName2 (up := up) (i := 0) (by omega) m
    refine split10 (b := nmB up 0 ++ [32, m]) (by simp [nm_len]) (by simp) (fun ts tl2 e => ?_) fun ts at_ tl2 q2 e hq2 ho => ?_
    · rw [hlx] at e
      simp only [Prod.mk.injEq] at e
      obtain ⟨rfl, _⟩ := e
      have hr1 : (1 : Int) ≤ rr.length + 1 := by omega
      simp [h0, h1, h2, h7, h8, tkV, tokV, hr1, splice]
      refine low14 [108, 101, 116] (by decide) ?_
      rw [lb1]
      simp
      refine low14 [95] (by decide) ?_
      rw [lb2]
      simp
      refine high15 [108, 101, 116] (by decide) ?_
      rw [lb3]
      simp
      refine res16 [111, 102] (by decide) ?_
      rw [lb4]
      simp
    · simp [h0, h1, h2, h7, h8, errV]
      refine low14 [108, 101, 116] (by decide) ?_
      rw [lb1]
      simp
      refine low14 [95] (by decide) ?_
      rw [lb2]
      simp
      refine high15 [108, 101, 116] (by decide) ?_
      rw [lb3]
      simp
      refine res16 [111, 102] (by decide) ?_
      rw [lb4]
      simp
  · simp [h8, bV_dem]
    refine split10 (b := nmB up i) (by rw [nm_len]; omega) (by simp) (fun ts tl e => ?_) fun ts at_ tl q2 e hq2 ho => ?_
    · rw [lexName hi] at e
      by_cases h40 : i < 40
      · rw [if_pos h40] at e
        simp only [Prod.mk.injEq, and_true] at e
        subst e
        have hqt : (h' ++ tl)[q]? = some (.fam (i + 1) 1) := by
          rw [List.getElem?_append_left (List.getElem?_eq_some_iff.1 hq).1, hq, nm_len]
        simp [h0]
        refine condA_dec (fun hx => absurd hx (by omega)) fun _ => ?_
        simp [h0, h1, h2, h7, h8, bV_text]
        refine high15 _ (by simp [nm_len]; omega) ?_
        rw [fact_high hi]
        simp [h0, h1, h2, h7, h8, bV_text, h40]
        refine low14 _ (by simp [nm_len]; omega) ?_
        rw [fact_low hi]
        have hlm : i + 1 + 2 ≤ lim := by
          have : 1000 ≤ lim := by decide
          omega
        simp [h0, h1, h2, h7, h8, bV_text, h40, k_appE, hqt, bV_len, nm_len, hlm]
        have e6 : bV (nmB up i) ++ [V.int .u8 32, V.int .u8 m.toNat] = bV (nmB up i ++ [32, m]) := by simp [bV]
        refine ⟨fun v hv => ?_, ?_⟩
        · rcases hv with hv | rfl | rfl
          · obtain ⟨x, _, rfl⟩ := List.mem_map.1 hv
            rfl
          · rfl
          · rfl
        rw [e6, bV_dem]
        obtain ⟨rr, ee, hlx⟩ := lexName2 (up := up) h40 m
        refine split10 (b := nmB up i ++ [32, m]) (by simp [nm_len]; omega) (by simp) (fun ts tl2 e => ?_) fun ts at_ tl2 q2 e hq2 ho => ?_
        · rw [hlx] at e
          simp only [Prod.mk.injEq] at e
          obtain ⟨rfl, _⟩ := e
          have hr1 : (1 : Int) ≤ rr.length + 1 := by omega
          simp [h0, h1, h2, h7, h8, tkV, tokV, hr1, splice]
          refine low14 [108, 101, 116] (by decide) ?_
          rw [lb1]
          simp
          refine low14 [95] (by decide) ?_
          rw [lb2]
          simp
          refine high15 [108, 101, 116] (by decide) ?_
          rw [lb3]
          simp
          refine res16 [111, 102] (by decide) ?_
          rw [lb4]
          simp
        · simp [h0, h1, h2, h7, h8, errV]
          refine low14 [108, 101, 116] (by decide) ?_
          rw [lb1]
          simp
          refine low14 [95] (by decide) ?_
          rw [lb2]
          simp
          refine high15 [108, 101, 116] (by decide) ?_
          rw [lb3]
          simp
          refine res16 [111, 102] (by decide) ?_
          rw [lb4]
          simp
      · rw [if_neg h40] at e
        simp at e
    · rw [lexName hi] at e
      by_cases h40 : i < 40
      · rw [if_pos h40] at e
        simp at e
      · rw [if_neg h40] at e
        simp only [Prod.mk.injEq, Option.some.injEq] at e
        obtain ⟨rfl, rfl⟩ := e
        simp [h0]
        refine condA_dec (fun _ => ?_) fun hx => absurd (show (40 : Int) < (i : Int) + 1 by omega) hx
        simp [h0, h1, h2, h7, h8]
        refine placed 0 ?_
        simp [errV, faultV]
        refine sameL q2 0 0 ho ?_
        simp [h0, h1, h2, h7, h8, bV_text]
        refine low14 _ (by simp [nm_len]; omega) ?_
        rw [fact_low hi]
        simp [h0, h1, h2, h7, h8, bV_text, h40]
        refine high15 _ (by simp [nm_len]; omega) ?_
        rw [fact_high hi]
        simp [h40]

theorem nameLoop (up : Bool) (i : Nat) (m : UInt8) (hi : i < 50) {s : St} (h0 : s.r 0 = .int .i64 (i + 1 : Nat)) (h1 : s.r 1 = .bool up) (h2 : s.r 2 = .int .u8 m.toNat) (h7 : s.r 7 = .bool true) (h9 : s.r 9 = .int .i64 1) (h8 : RowN (nmB up 0) (s.r 8) s.h) :
    wpA (CallA ap) [0] nmL (blockA 0 (thenA (wpA (CallA ap) [0] nmT QN) QN)) s := by
  let I : Nat → St → Prop := fun k s => ∃ j : Nat, j + k = i ∧ s.r 0 = .int .i64 (i + 1 : Nat) ∧ s.r 1 = .bool up ∧ s.r 2 = .int .u8 m.toNat ∧ s.r 7 = .bool true ∧ s.r 9 = .int .i64 (j + 1 : Nat) ∧ RowN (nmB up j) (s.r 8) s.h
  have hI : ∀ k s, I k s ↔ _ := fun k s => Iff.rfl
  refine loop_ind (CallA.hle ap) I ?_ (n := i) ((hI _ _).2 ⟨0, by simp, h0, h1, h2, h7, h9, h8⟩)
  rintro k ⟨r, lo, h'⟩ hst
  obtain ⟨j, hj, r0, r1, r2, r7, r9, r8⟩ := (hI _ _).1 hst
  simp only at r0 r1 r2 r7 r9 r8
  by_cases hji : j < i
  · have hw : IntKind.wrap .i64 ((j : Int) + 1 + 1) = ((j + 1 + 1 : Nat) : Int) := by rw [wrapn (by omega) (by omega)]; omega
    rcases r8 with ⟨hl, r8, rfl⟩ | ⟨q, r8, hq⟩
    · rw [nm_len] at hl
      have : j = 0 := by omega
      subst this
      have e3 : rdO 0 1 1 (some (.box (bV (nmB up 0)))) = .sl .clip (bV (nmB up 0)) := by
        rw [rd_box _ _ _ _ (by simp [bV_len, nm_len])]
        simp
        exact List.take_of_length_le (by simp [bV_len, nm_len])
      have e4 : bV (nmB up 0) = [.int .u8 (if up then 81 else 113)] := by cases up <;> rfl
      have e5 : ∀ c : V, rdO 0 1 1 (some (.box [c])) = .sl .clip [c] := fun c => rfl
      have hl2 : 1 + 1 ≤ lim := by decide
      have hl3 : 2 ≤ lim := by decide
      have hw2 : IntKind.wrap .i64 2 = 2 := wrapn (by omega) (by omega)
      simp [forget, noLoc, locOf, r0, r1, r2, r7, r9, r8]
      refine condA_dec (fun _ => ?_) fun hx => absurd (show (1 : Int) < i + 1 by omega) hx
      simp [r0, r1, r2, r7, r9, r8, e3, e4, e5, k_appE, sindexV, hl2, hl3, hw2]
      refine ⟨k - 1, by omega, (hI _ _).2 ⟨1, by omega, by simp [r0], by simp [r1], by simp [r2], by simp [r7], by simp, .inr ⟨1, ?_, ?_⟩⟩⟩
      · simp [nmB, bV]
        cases up <;> rfl
      · simp [nm_len]
    · have hs : sindexV (.str [97, 98, 90, 57, 95, 39, 120]) (.int .i64 (((j : Int) + 1).tmod 7)) = some (.int .u8 (([97, 98, 90, 57, 95, 39, 120] : Bs).getD ((j + 1) % 7) 0).toNat) := by
        have e : ((j : Int) + 1).tmod 7 = (((j + 1) % 7 : Nat) : Int) := by rw [Int.tmod_eq_emod_of_nonneg (by omega)]; omega
        rw [e]
        have h7 : (j + 1) % 7 < 7 := Nat.mod_lt _ (by omega)
        generalize (j + 1) % 7 = t at h7
        have : t = 0 ∨ t = 1 ∨ t = 2 ∨ t = 3 ∨ t = 4 ∨ t = 5 ∨ t = 6 := by omega
        rcases this with rfl | rfl | rfl | rfl | rfl | rfl | rfl <;> rfl
      have hs2 : sindexV (.str [97, 98, 90, 57, 95, 39, 120]) (.int .i64 (((j : Int) + 1) % 7)) = some (.int .u8 (([97, 98, 90, 57, 95, 39, 120] : Bs).getD ((j + 1) % 7) 0).toNat) := by
        rw [← hs, Int.tmod_eq_emod_of_nonneg (by omega)]
      have hlm : j + 1 + 1 ≤ lim := by
        have : 1000 ≤ lim := by decide
        omega
      have hcl : ∀ a ∈ bV (nmB up j), a.cells.length = 1 := fun a ha => by
        obtain ⟨x, _, rfl⟩ := List.mem_map.1 ha
        rfl
      have hql : q < h'.length := (List.getElem?_eq_some_iff.1 hq).1
      rw [nm_len] at hq
      generalize hc : ([97, 98, 90, 57, 95, 39, 120] : Bs).getD ((j + 1) % 7) 0 = c at hs hs2
      simp [forget, noLoc, locOf, r0, r1, r2, r7, r9, r8, hji, k_appE, hq, hs, hs2, hlm, hw, bV_len, nm_len]
      refine ⟨?_, ?_⟩
      · intro v hv
        rcases hv with hv | rfl
        · exact hcl v hv
        · rfl
      refine ⟨k - 1, by omega, (hI _ _).2 ⟨j + 1, by omega, by simp [r0], by simp [r1], by simp [r2], by simp [r7], by simp, .inr ⟨q, ?_, ?_⟩⟩⟩
      · rw [nm_succ, hc]
        simp [bV]
      · simp [nm_len, hql]
  · have : j = i := by omega
    subst this
    rcases r8 with ⟨hl, r8, rfl⟩ | ⟨q, r8, hq⟩
    all_goals
      simp [forget, noLoc, locOf, r0, r1, r2, r7, r9, r8]
      refine nameTail up j m hi ?_ ?_ ?_ ?_ ?_
      · simp [r0]
      · simp [r1]
      · simp [r2]
      · simp [r7]
      · first
          | (simp [r8]; exact .inr ⟨_, rfl, hq⟩)
          | (simp [r8]; exact .inl ⟨hl, rfl, rfl⟩)

theorem byte_bd {n : Int} (h : (Lit.int .u8 n).wf = true) : 0 ≤ n ∧ n < 256 := by
  simp only [Lit.wf, Bool.and_eq_true, decide_eq_true_eq] at h
  have h1 : 0 ≤ n := h.1
  have h2 : n ≤ 255 := h.2
  omega

theorem lexerNames (n0 : Int) (up : Bool) (m0 : Int) (hm0 : 0 ≤ m0 ∧ m0 < 256) : CallA ap 5 0 [] [.int .i64 n0, .bool up, .int .u8 m0] [] fun v _ => v = .bool true := by
  obtain ⟨m, rfl⟩ : ∃ m : UInt8, m0 = (m.toNat : Int) := ⟨UInt8.ofNat m0.toNat, by simp; omega⟩
  obtain ⟨i, hi, e⟩ : ∃ i : Nat, i < 50 ∧ numZ n0 50 = (i : Int) := ⟨(numZ n0 50).toNat, by
    have := @numZ_bound n0 50 (by omega)
    omega⟩
  have hw : IntKind.wrap .i64 ((i : Int) + 1) = (i : Int) + 1 := wrapn (by omega) (by omega)
  refine CallA.code (af := ac5) rfl (Nat.le_of_ble_eq_true rfl) ?_
  cases up
  all_goals
    simp [ac5]
    refine first9 (by simp) ?_
    simp
    refine numberZ _ _ (by omega) (by omega) ?_
    rw [e]
    simp [hw, splice, okStore]
  · refine nameLoop false i m hi ?_ ?_ ?_ ?_ ?_ ?_
    · simp
    · simp
    · simp
    · simp
    · simp
    · exact .inl ⟨rfl, by simp, rfl⟩
  · refine nameLoop true i m hi ?_ ?_ ?_ ?_ ?_ ?_
    · simp
    · simp
    · simp
    · simp
    · simp
    · exact .inl ⟨rfl, by simp, rfl⟩

end Go.Ut
