/- The reference's Split: on the abstract machine. -/
import Derived.Test.YtjfflpknmhflfaaDoorMtLp
import Derived.Test.YtjfflpknmhflfaaDoorMtLk
namespace Go.Mt
open Go.Am Go.Proofs
set_option maxRecDepth 100000
set_option maxHeartbeats 2000000

def isBl (c : UInt8) : Bool := c.toNat == 32 || c.toNat == 9 || c.toNat == 10 || c.toNat == 13

section
variable {bs : List Nat} {h : List Ob} {Q : V → List Ob → Prop}

theorem rsplit (b : Bs) (hb : b.length ≤ 20000) (h1 : ∀ ts, lexF (b.length + 1) 0 b = (ts, none) → Q (.tup [.sl .frozen (ts.map tkV), .agg [.int .i64 0, .bool false, .int .i64 0]]) h)
    (h2 : ∀ ts (at_ : Nat), lexF (b.length + 1) 0 b = (ts, some at_) → Q (.tup [.sl .frozen [], faultV at_]) h) : CallA ap 17 0 bs [.sl .frozen (bV b)] h Q := by
  refine CallA.code (af := ac17) rfl (Nat.le_of_ble_eq_true rfl) ?_
  have g1 : ¬ (20000 : Int) < (b.length : Int) := by omega
  simp [ac17, bV_len, g1]
  obtain ⟨I, hI⟩ : ∃ I : Nat → St → Prop, ∀ n s, I n s ↔ (∃ (i f : Nat) (ts : List Tk) (tg : Tag), i + n = b.length ∧ ts.length ≤ i ∧ n < f ∧ lexF (b.length + 1) 0 b = (ts ++ (lexF f i (b.drop i)).1, (lexF f i (b.drop i)).2) ∧
    s.r 0 = .sl .frozen (bV b) ∧ s.r 3 = .loc 3 0 ∧ s.r 4 = .sl tg (ts.map tkV) ∧ s.r 5 = .int .i64 i ∧ s.l 3 = some [.int .i64 0, .bool false, .int .i64 0] ∧
    ((ts = [] ∧ tg = .clip ∧ s.h = h) ∨ (ts ≠ [] ∧ tg = .fam h.length ∧ s.h = h ++ [.fam ts.length 4]))) := ⟨_, fun _ _ => Iff.rfl⟩
  refine loop_ind (CallA.hle ap) I ?_ (n := b.length) ((hI _ _).2 ⟨0, b.length + 1, [], .clip, by simp⟩)
  rintro n ⟨rr, lo, h'⟩ hst
  obtain ⟨i, f, ts, tg, hin, hts, hf, hlex, r0, r3, r4, r5, l3, hor⟩ := (hI _ _).1 hst
  simp only at r0 r3 r4 r5 l3 hor
  obtain ⟨tl0, ht0⟩ : ∃ tl, h' = h ++ tl := by
    rcases hor with ⟨_, _, e⟩ | ⟨_, _, e⟩
    · exact ⟨[], by simp [e]⟩
    · exact ⟨_, e⟩
  obtain ⟨f, rfl⟩ : ∃ g, f = g + 1 := ⟨f - 1, by omega⟩
  by_cases hi : i < b.length
  · have gi : (i : Int) < (b.length : Int) := by omega
    have hi2 : i ≤ b.length := by omega
    cases hd : b.drop i with
    | nil => have := congrArg List.length hd; simp at this; omega
    | cons c rs =>
    have hrl : (c :: rs).length < 1000000 := by rw [← hd]; simp; omega
    have hrl2 : (c :: rs).length = b.length - i := by rw [← hd]; simp
    have hbi : b[i] = c := by
      have := List.drop_eq_getElem_cons hi
      rw [hd] at this
      exact (List.cons.inj this).1.symm
    rw [hd] at hlex
    have hw1 : IntKind.wrap .i64 ((i : Int) + 1) = ((i + 1 : Nat) : Int) := by rw [wrapn (by omega) (by omega)]; omega
    have hble := blank_le (c :: rs)
    have next : ∀ m : Nat, 0 < m → m ≤ b.length - i → blankN (c :: rs) = m → ∀ s : St, s.r 0 = .sl .frozen (bV b) → s.r 3 = .loc 3 0 → s.r 4 = .sl tg (ts.map tkV) → s.r 5 = .int .i64 ((i + m : Nat) : Int) → s.l 3 = some [.int .i64 0, .bool false, .int .i64 0] → s.h = h' → Again I n s :=
      fun m hm0 hm hbm s q0 q3 q4 q5 ql qh => by
        have el : lexF (f + 1) i (c :: rs) = lexF f (i + m) (b.drop (i + m)) := by
          rw [lex_blank (by omega), hbm, ← hd, List.drop_drop]
        rw [el] at hlex
        refine ⟨n - m, by omega, (hI _ _).2 ⟨i + m, f, ts, tg, by omega, by omega, by omega, hlex, q0, q3, q4, q5, ql, ?_⟩⟩
        rw [qh]
        exact hor
    by_cases hbl : isBl c = true
    · have hb1 : blankN (c :: rs) = 1 := by
        simp only [blankN]
        rw [if_pos (by simpa [isBl] using hbl)]
      have q32 := eqn c 32
      simp only [isBl, Bool.or_eq_true, beq_iff_eq] at hbl
      rcases hbl with ((hc | hc) | hc) | hc <;>
        (simp [forget, noLoc, locOf, r0, r5, bV_len, bV_at, hi, hbi, hc, hw1]
         exact next 1 (by decide) (by omega) hb1 _ (by simp [r0]) (by simp [r3]) (by simp [r4]) (by simp) (by simp [l3]) rfl)
    · have hbl : isBl c = false := by simpa using hbl
      have b32 : ((c.toNat : Int) == 32) = false := by
        cases e : (c.toNat == 32)
        · exact (eqn c 32).trans e
        · simp [isBl, e] at hbl
      have b9 : ((c.toNat : Int) == 9) = false := by
        cases e : (c.toNat == 9)
        · exact (eqn c 9).trans e
        · simp [isBl, e] at hbl
      have b10 : ((c.toNat : Int) == 10) = false := by
        cases e : (c.toNat == 10)
        · exact (eqn c 10).trans e
        · simp [isBl, e] at hbl
      have b13 : ((c.toNat : Int) == 13) = false := by
        cases e : (c.toNat == 13)
        · exact (eqn c 13).trans e
        · simp [isBl, e] at hbl
      have hbw : blankN (c :: rs) = if c.toNat == 45 && rs.head?.any (fun d => d.toNat == 45) then whl (fun d => d.toNat != 10) (c :: rs) else 0 := by
        simp only [blankN]
        rw [if_neg (by simpa [isBl] using hbl)]
      have hrs : rs.head? = b[i + 1]? := by
        have := congrArg (fun l => l[1]?) hd
        simp only [List.getElem?_drop, List.getElem?_cons_succ] at this
        rw [this, List.head?_eq_getElem?]
      have hc : (i = 0 ∨ ∀ x ∈ bV b, x.cells.length = 1) = True := eq_true (.inr (bV_cells b))
      have ht : (bV (c :: rs)).take (b.length - i) = bV (c :: rs) := List.take_of_length_le (by rw [bV_len]; omega)
      by_cases c45 : c.toNat = 45
      · by_cases hi1 : i + 1 < b.length
        · have k1 : (i : Int) + 1 < b.length := by omega
          have k2 : ((i : Int) + 1).toNat = i + 1 := by omega
          have k3 : (0 : Int) ≤ (i : Int) + 1 := by omega
          by_cases d45 : b[i + 1].toNat = 45
          · have hbn : blankN (c :: rs) = whl (fun d => d.toNat != 10) (c :: rs) := by
              rw [hbw, if_pos (by simp [c45, hrs, List.getElem?_eq_getElem hi1, d45])]
            simp [forget, noLoc, locOf, r0, r5, bV_len, bV_at, hi, hbi, c45, hw1, k1, k2, k3, hi1, d45]
            obtain ⟨J, hJ⟩ : ∃ J : Nat → St → Prop, ∀ n s, J n s ↔ (∃ j : Nat, j + n = b.length ∧ i ≤ j ∧ (∀ x (hx : x < b.length), i ≤ x → x < j → (b[x].toNat != 10) = true) ∧ s.r 0 = .sl .frozen (bV b) ∧ s.r 3 = .loc 3 0 ∧ s.r 4 = .sl tg (ts.map tkV) ∧ s.r 5 = .int .i64 j ∧
              s.l 3 = some [.int .i64 0, .bool false, .int .i64 0] ∧ s.h = h') := ⟨_, fun _ _ => Iff.rfl⟩
            refine loop_ind (CallA.hle ap) J ?_ (n := b.length - i) ((hJ _ _).2 ⟨i, by omega, Nat.le_refl _, fun x hx h1 h2 => by omega, by simp [r0], by simp [r3], by simp [r4], by simp [r5], by simp [l3], rfl⟩)
            clear hst r0 r3 r4 r5 l3
            rintro m ⟨rr, lo, h''⟩ hst
            obtain ⟨j, hjm, hij, hall, r0, r3, r4, r5, l3, hh⟩ := (hJ _ _).1 hst
            simp only at r0 r3 r4 r5 l3 hh
            subst hh
            have stop : (∀ h : j < b.length, (b[j].toNat != 10) = false) → blankN (c :: rs) = j - i ∧ 0 < j - i := fun hs => by
              have hw : whl (fun d => d.toNat != 10) (b.drop i) = j - i := whl_is _ _ (fun x hx hxj => by
                simp at hx
                rw [List.getElem_drop]
                exact hall (i + x) (by omega) (by omega) (by omega)) (by simp; omega) (fun h => by
                  simp at h
                  simp only [List.getElem_drop]
                  have e : i + (j - i) = j := by omega
                  have := hs (by omega)
                  simpa only [e] using this)
              rw [hd] at hw
              refine ⟨by rw [hbn, hw], ?_⟩
              by_cases h0 : j = i
              · subst h0
                have := hs hi
                rw [hbi, c45] at this
                cases this
              · omega
            by_cases hj : j < b.length
            · have hw : IntKind.wrap .i64 ((j : Int) + 1) = ((j + 1 : Nat) : Int) := by rw [wrapn (by omega) (by omega)]; omega
              have hne : ((b[j].toNat : Int) != 10) = (b[j].toNat != 10) := congrArg (! ·) (eqn b[j] 10)
              cases e10 : (b[j].toNat != 10)
              · obtain ⟨z1, z2⟩ := stop fun _ => e10
                simp [forget, noLoc, locOf, r0, r5, bV_len, bV_at, hj, hne, e10]
                exact next (j - i) z2 (by omega) z1 _ (by simp [r0]) (by simp [r3]) (by simp [r4]) (by simp [r5]; omega) (by simp [l3]) rfl
              · simp [forget, noLoc, locOf, r0, r5, bV_len, bV_at, hj, hne, e10, hw]
                refine ⟨m - 1, by omega, (hJ _ _).2 ⟨j + 1, by omega, by omega, fun x hx h1 h2 => ?_, by simp [r0], by simp [r3], by simp [r4], by simp, by simp [l3], rfl⟩⟩
                by_cases hxj : x = j
                · subst hxj; exact e10
                · exact hall x hx h1 (by omega)
            · obtain ⟨z1, z2⟩ := stop fun h => absurd h hj
              simp [forget, noLoc, locOf, r0, r5, bV_len, hj]
              exact next (j - i) z2 (by omega) z1 _ (by simp [r0]) (by simp [r3]) (by simp [r4]) (by simp [r5]; omega) (by simp [l3]) rfl
          · have q45 : ((b[i + 1].toNat : Int) == 45) = false := (eqn b[i + 1] 45).trans (beq_false_of_ne d45)
            simp [forget, noLoc, locOf, r0, r5, bV_len, bV_at, hi, hbi, c45, hw1, k1, k2, k3, hi1, q45, sliceV, bnd, hi2, bV_drop, hd, bV_dem, hc, ht]
            have hbz : blankN (c :: rs) = 0 := by
              rw [hbw, if_neg (by simp [hrs, List.getElem?_eq_getElem hi1, d45])]
            have hbl0 : ¬ 0 < blankN (c :: rs) := by omega
            refine rword c rs hrl ?_
            cases hwd : wordT (c :: rs) with
            | none =>
              have el : lexF (f + 1) i (c :: rs) = ([], some i) := by
                simp only [lexF, hbl0, if_false, hwd]
                rw [if_neg (by simp)]
              rw [el] at hlex
              simp [rwV, tokV, splice, r5]
              refine placed _ ?_
              simp [faultV, splice, r3, l3, ht0]
              exact h2 _ _ (by simpa using hlex)
            | some w =>
              obtain ⟨k, s, nn⟩ := w
              have el : lexF (f + 1) i (c :: rs) = (⟨k, i, s, nn⟩ :: (lexF f (i + s.length) (b.drop (i + s.length))).1, (lexF f (i + s.length) (b.drop (i + s.length))).2) := by
                simp only [lexF, hbl0, if_false, hwd]
                rw [if_neg (by simp), ← hd, List.drop_drop]
              rw [el] at hlex
              obtain ⟨p1, p2⟩ := word_pre hwd
              have p3 := p2.length_le
              have p4 : 0 < s.length := List.length_pos_iff.2 p1
              have p5 : ((s.length : Int) == 0) = false := beq_false_of_ne (by omega)
              have hw : IntKind.wrap .i64 ((i : Int) + s.length) = ((i + s.length : Nat) : Int) := by rw [wrapn (by omega) (by omega)]; omega
              simp [rwV, tokV, splice, r4, r5, p5]
              have hlm : ts.length + 1 ≤ lim := by simp only [lim]; omega
              refine ⟨fun v hv => ?_, hlm, ?_⟩
              · rcases hv with ⟨a, _, rfl⟩ | rfl <;> rfl
              have hkt : V.agg [.int .i64 k, .int .i64 i, .str s, .int .i64 nn] = tkV ⟨k, i, s, nn⟩ := rfl
              rw [hkt]
              have hlex' : lexF (b.length + 1) 0 b = ((ts ++ [⟨k, i, s, nn⟩]) ++ (lexF f (i + s.length) (b.drop (i + s.length))).1, (lexF f (i + s.length) (b.drop (i + s.length))).2) := by simpa using hlex
              rcases hor with ⟨rfl, rfl, rfl⟩ | ⟨hne, rfl, rfl⟩
              · simp [r5, hw]
                exact ⟨n - s.length, by omega, (hI _ _).2 ⟨i + s.length, f, [⟨k, i, s, nn⟩], .fam h'.length, by omega, by simp; omega, by omega, by simpa using hlex', by simp [r0], by simp [r3], by simp, by simp, by simp [l3], .inr ⟨by simp, rfl, by simp⟩⟩⟩
              · simp [r5, hw]
                exact ⟨n - s.length, by omega, (hI _ _).2 ⟨i + s.length, f, ts ++ [⟨k, i, s, nn⟩], .fam h.length, by omega, by simp; omega, by omega, hlex', by simp [r0], by simp [r3], by simp, by simp, by simp [l3], .inr ⟨by simp, rfl, by simp⟩⟩⟩
        · have k1 : ¬ (i : Int) + 1 < b.length := by omega
          simp [forget, noLoc, locOf, r0, r5, bV_len, bV_at, hi, hbi, c45, hw1, k1, sliceV, bnd, hi2, bV_drop, hd, bV_dem, hc, ht]
          have hbz : blankN (c :: rs) = 0 := by
            rw [hbw, if_neg (by simp [hrs, List.getElem?_eq_none (by omega : b.length ≤ i + 1)])]
          have hbl0 : ¬ 0 < blankN (c :: rs) := by omega
          refine rword c rs hrl ?_
          cases hwd : wordT (c :: rs) with
          | none =>
            have el : lexF (f + 1) i (c :: rs) = ([], some i) := by
              simp only [lexF, hbl0, if_false, hwd]
              rw [if_neg (by simp)]
            rw [el] at hlex
            simp [rwV, tokV, splice, r5]
            refine placed _ ?_
            simp [faultV, splice, r3, l3, ht0]
            exact h2 _ _ (by simpa using hlex)
          | some w =>
            obtain ⟨k, s, nn⟩ := w
            have el : lexF (f + 1) i (c :: rs) = (⟨k, i, s, nn⟩ :: (lexF f (i + s.length) (b.drop (i + s.length))).1, (lexF f (i + s.length) (b.drop (i + s.length))).2) := by
              simp only [lexF, hbl0, if_false, hwd]
              rw [if_neg (by simp), ← hd, List.drop_drop]
            rw [el] at hlex
            obtain ⟨p1, p2⟩ := word_pre hwd
            have p3 := p2.length_le
            have p4 : 0 < s.length := List.length_pos_iff.2 p1
            have p5 : ((s.length : Int) == 0) = false := beq_false_of_ne (by omega)
            have hw : IntKind.wrap .i64 ((i : Int) + s.length) = ((i + s.length : Nat) : Int) := by rw [wrapn (by omega) (by omega)]; omega
            simp [rwV, tokV, splice, r4, r5, p5]
            have hlm : ts.length + 1 ≤ lim := by simp only [lim]; omega
            refine ⟨fun v hv => ?_, hlm, ?_⟩
            · rcases hv with ⟨a, _, rfl⟩ | rfl <;> rfl
            have hkt : V.agg [.int .i64 k, .int .i64 i, .str s, .int .i64 nn] = tkV ⟨k, i, s, nn⟩ := rfl
            rw [hkt]
            have hlex' : lexF (b.length + 1) 0 b = ((ts ++ [⟨k, i, s, nn⟩]) ++ (lexF f (i + s.length) (b.drop (i + s.length))).1, (lexF f (i + s.length) (b.drop (i + s.length))).2) := by simpa using hlex
            rcases hor with ⟨rfl, rfl, rfl⟩ | ⟨hne, rfl, rfl⟩
            · simp [r5, hw]
              exact ⟨n - s.length, by omega, (hI _ _).2 ⟨i + s.length, f, [⟨k, i, s, nn⟩], .fam h'.length, by omega, by simp; omega, by omega, by simpa using hlex', by simp [r0], by simp [r3], by simp, by simp, by simp [l3], .inr ⟨by simp, rfl, by simp⟩⟩⟩
            · simp [r5, hw]
              exact ⟨n - s.length, by omega, (hI _ _).2 ⟨i + s.length, f, ts ++ [⟨k, i, s, nn⟩], .fam h.length, by omega, by simp; omega, by omega, hlex', by simp [r0], by simp [r3], by simp, by simp, by simp [l3], .inr ⟨by simp, rfl, by simp⟩⟩⟩
      · have q45 : ((c.toNat : Int) == 45) = false := (eqn c 45).trans (beq_false_of_ne c45)
        simp [forget, noLoc, locOf, r0, r5, bV_len, bV_at, hi, hbi, b32, b9, b10, b13, q45, sliceV, bnd, hi2, bV_drop, hd, bV_dem, hc, ht]
        have hbz : blankN (c :: rs) = 0 := by
          rw [hbw, if_neg (by simp [c45])]
        have hbl0 : ¬ 0 < blankN (c :: rs) := by omega
        refine rword c rs hrl ?_
        cases hwd : wordT (c :: rs) with
        | none =>
          have el : lexF (f + 1) i (c :: rs) = ([], some i) := by
            simp only [lexF, hbl0, if_false, hwd]
            rw [if_neg (by simp)]
          rw [el] at hlex
          simp [rwV, tokV, splice, r5]
          refine placed _ ?_
          simp [faultV, splice, r3, l3, ht0]
          exact h2 _ _ (by simpa using hlex)
        | some w =>
          obtain ⟨k, s, nn⟩ := w
          have el : lexF (f + 1) i (c :: rs) = (⟨k, i, s, nn⟩ :: (lexF f (i + s.length) (b.drop (i + s.length))).1, (lexF f (i + s.length) (b.drop (i + s.length))).2) := by
            simp only [lexF, hbl0, if_false, hwd]
            rw [if_neg (by simp), ← hd, List.drop_drop]
          rw [el] at hlex
          obtain ⟨p1, p2⟩ := word_pre hwd
          have p3 := p2.length_le
          have p4 : 0 < s.length := List.length_pos_iff.2 p1
          have p5 : ((s.length : Int) == 0) = false := beq_false_of_ne (by omega)
          have hw : IntKind.wrap .i64 ((i : Int) + s.length) = ((i + s.length : Nat) : Int) := by rw [wrapn (by omega) (by omega)]; omega
          simp [rwV, tokV, splice, r4, r5, p5]
          have hlm : ts.length + 1 ≤ lim := by simp only [lim]; omega
          refine ⟨fun v hv => ?_, hlm, ?_⟩
          · rcases hv with ⟨a, _, rfl⟩ | rfl <;> rfl
          have hkt : V.agg [.int .i64 k, .int .i64 i, .str s, .int .i64 nn] = tkV ⟨k, i, s, nn⟩ := rfl
          rw [hkt]
          have hlex' : lexF (b.length + 1) 0 b = ((ts ++ [⟨k, i, s, nn⟩]) ++ (lexF f (i + s.length) (b.drop (i + s.length))).1, (lexF f (i + s.length) (b.drop (i + s.length))).2) := by simpa using hlex
          rcases hor with ⟨rfl, rfl, rfl⟩ | ⟨hne, rfl, rfl⟩
          · simp [r5, hw]
            exact ⟨n - s.length, by omega, (hI _ _).2 ⟨i + s.length, f, [⟨k, i, s, nn⟩], .fam h'.length, by omega, by simp; omega, by omega, by simpa using hlex', by simp [r0], by simp [r3], by simp, by simp, by simp [l3], .inr ⟨by simp, rfl, by simp⟩⟩⟩
          · simp [r5, hw]
            exact ⟨n - s.length, by omega, (hI _ _).2 ⟨i + s.length, f, ts ++ [⟨k, i, s, nn⟩], .fam h.length, by omega, by simp; omega, by omega, hlex', by simp [r0], by simp [r3], by simp, by simp, by simp [l3], .inr ⟨by simp, rfl, by simp⟩⟩⟩
  · have hib : i = b.length := by omega
    have el : lexF (f + 1) i (b.drop i) = ([], none) := by
      simp [lexF, hib]
    rw [el] at hlex
    simp [forget, noLoc, locOf, r0, r4, r5, bV_len, hi]
    refine CallA.code (af := ac19) rfl (Nat.le_of_ble_eq_true rfl) ?_
    simp [ac19, splice, r3, l3, tk_dem, tk_under, ht0]
    rw [show List.take h.length (List.take (h.length + tl0.length) (h ++ tl0)) = h from by rw [List.take_take]; simp]
    exact h1 _ (by simpa using hlex)

end
end Go.Mt
