/- The law LexerPlaces on the abstract machine. -/
import Derived.Test.YtjfflpknmhflfaaDoorLtLg
namespace Go.Lt
open Go.Am Go.Proofs
set_option maxRecDepth 100000

def isBl (c : UInt8) : Bool := c.toNat == 32 || c.toNat == 9 || c.toNat == 10 || c.toNat == 13
/-- What lies between two words: blanks, and remarks up to their lines' ends. -/
def gap : Bool → Bs → Bool
  | _, [] => true
  | r, c :: g => ((r || (c.toNat == 45 && g.head?.any fun d => d.toNat == 45)) && c.toNat != 10 || isBl c) && gap ((r || (c.toNat == 45 && g.head?.any fun d => d.toNat == 45)) && c.toNat != 10) g

theorem gap_in : ∀ (s g : Bs), (∀ x ∈ s, (x.toNat != 10) = true) → gap true (s ++ g) = gap true g
  | [], _, _ => rfl
  | c :: s, g, h => by
    have h1 := h c (by simp)
    simp [gap, h1, gap_in s g fun x hx => h x (by simp [hx])]

theorem whl_parts {p : UInt8 → Bool} : ∀ b : Bs, ∃ s r, b = s ++ r ∧ s.length = whl p b ∧ (∀ x ∈ s, p x = true) ∧ (r = [] ∨ r.head?.any (fun d => !p d) = true)
  | [] => ⟨[], [], rfl, rfl, by simp, .inl rfl⟩
  | c :: b => by
    cases hc : p c
    · exact ⟨[], c :: b, rfl, by simp [whl, hc], by simp, .inr (by simp [hc])⟩
    · obtain ⟨s, r, h1, h2, h3, h4⟩ := whl_parts (p := p) b
      exact ⟨c :: s, r, by simp [h1], by simp [whl, hc, h2], fun x hx => by
        rcases List.mem_cons.1 hx with rfl | hx
        · exact hc
        · exact h3 x hx, h4⟩

/-- A flag that may stand ahead of this text. -/
def okR (r : Bool) (b : Bs) : Prop := r = false ∨ b = [] ∨ b.head?.any (fun d => !(d.toNat != 10)) = true

theorem piece {b : Bs} (h : 0 < blankN b) (r : Bool) (hr : okR r b) : ∃ s t r', b = s ++ t ∧ s.length = blankN b ∧ okR r' t ∧ ∀ g, gap r (s ++ g) = gap r' g := by
  cases b with
  | nil => simp [blankN] at h
  | cons c b =>
    cases hc : isBl c
    · have hb : blankN (c :: b) = if c.toNat == 45 && b.head?.any (fun d => d.toNat == 45) then whl (fun d => d.toNat != 10) (c :: b) else 0 := by
        simp only [blankN]
        rw [if_neg (by simpa [isBl] using hc)]
      rw [hb] at h ⊢
      cases h2 : (c.toNat == 45 && b.head?.any fun d => d.toNat == 45)
      · simp [h2] at h
      · obtain ⟨s, t, e1, e2, e3, e4⟩ := whl_parts (p := fun d => d.toNat != 10) (c :: b)
        simp only [h2, if_true] at h ⊢
        cases b with
        | nil => simp at h2
        | cons d b =>
          cases s with
          | nil => simp at e2; omega
          | cons c' s =>
            simp only [List.cons_append, List.cons.injEq] at e1
            obtain ⟨rfl, e1⟩ := e1
            cases s with
            | nil =>
              simp [whl] at e2
              simp at h2
              simp [h2] at e2
            | cons d' s =>
              simp only [List.cons_append, List.cons.injEq] at e1
              obtain ⟨rfl, e1⟩ := e1
              refine ⟨c :: d :: s, t, true, by simp [e1], e2, .inr e4, fun g => ?_⟩
              have n1 := e3 c (by simp)
              have n2 := e3 d (by simp)
              have := gap_in (d :: s) g fun x hx => e3 x (by simp at hx ⊢; exact .inr hx)
              simp only [List.cons_append] at this ⊢
              simp at h2
              rw [gap]
              simp [h2, this]
    · have hb : blankN (c :: b) = 1 := by
        simp only [blankN]
        rw [if_pos (by simpa [isBl] using hc)]
      refine ⟨[c], b, false, rfl, by rw [hb]; rfl, .inl rfl, fun g => ?_⟩
      have h45 : (c.toNat == 45) = false := by
        cases h : (c.toNat == 45)
        · rfl
        · have h := beq_iff_eq.1 h
          simp [isBl, h] at hc
      have hf : (r && c.toNat != 10) = false := by
        rcases hr with rfl | hr | hr
        · rfl
        · cases hr
        · simp at hr
          simp [hr]
      simp [gap, h45, hf, hc]

theorem gaps : ∀ (f p : Nat) (b : Bs) (r : Bool) (ts : List Tk), okR r b → lexF f p b = (ts, none) → b.length < f → (ts = [] ∧ gap r b = true) ∨
    ∃ t ts' g u f', ts = t :: ts' ∧ b = g ++ (t.s ++ u) ∧ t.p = p + g.length ∧ t.s ≠ [] ∧ gap r g = true ∧ u.length < f' ∧ lexF f' (t.p + t.s.length) u = (ts', none)
  | 0, _, b, _, _, _, _, hf => absurd hf (by omega)
  | f + 1, p, b, r, ts, hr, h, hf => by
    by_cases hb : b = []
    · subst hb
      rw [lex_nil] at h
      simp at h
      subst h
      exact .inl ⟨rfl, rfl⟩
    by_cases h0 : 0 < blankN b
    · rw [lex_blank h0] at h
      obtain ⟨s, t, r', e1, e2, e3, e4⟩ := piece h0 r hr
      have hd : b.drop (blankN b) = t := by rw [← e2, e1]; simp
      have hl : t.length < f := by
        have := congrArg List.length e1
        simp at this
        omega
      rw [hd] at h
      rcases gaps f _ t r' ts e3 h hl with ⟨h1, h2⟩ | ⟨t', ts', g, u, f', a1, a2, a3, a4, a5, a6, a7⟩
      · exact .inl ⟨h1, by rw [e1, e4]; exact h2⟩
      · exact .inr ⟨t', ts', s ++ g, u, f', a1, by rw [e1, a2]; simp, by rw [a3, ← e2]; simp; omega, a4, by rw [e4]; exact a5, a6, a7⟩
    · cases hw : wordT b with
      | none => simp [lexF, hb, h0, hw] at h
      | some v =>
        obtain ⟨k, s, n⟩ := v
        obtain ⟨w1, u, w2⟩ := word_pre hw
        rw [lex_word (by omega) hw] at h
        have hd : b.drop s.length = u := by rw [← w2]; simp
        rw [hd] at h
        simp only [Prod.mk.injEq] at h
        obtain ⟨ha, hb'⟩ := h
        refine .inr ⟨⟨k, p, s, n⟩, _, [], u, f, ha.symm, by simp [w2], rfl, w1, rfl, ?_, Prod.ext rfl hb'⟩
        have := congrArg List.length w2
        have : 0 < s.length := List.length_pos_iff.2 w1
        simp at *
        omega

theorem lex_cnt : ∀ (f p : Nat) (b : Bs), (lexF f p b).1.length ≤ b.length
  | 0, _, _ => by simp [lexF]
  | f + 1, p, b => by
    by_cases hb : b = []
    · subst hb
      simp [lex_nil]
    by_cases h0 : 0 < blankN b
    · rw [lex_blank h0]
      have := lex_cnt f (p + blankN b) (b.drop (blankN b))
      simp at this
      omega
    · cases hw : wordT b with
      | none => simp [lexF, hb, h0, hw]
      | some v =>
        obtain ⟨k, s, n⟩ := v
        obtain ⟨w1, u, w2⟩ := word_pre hw
        rw [lex_word (by omega) hw]
        have h1 := lex_cnt f (p + s.length) (b.drop s.length)
        have h2 := congrArg List.length w2
        have : 0 < s.length := List.length_pos_iff.2 w1
        simp at h1 h2 ⊢
        omega

theorem lexerPlaces (b : Bs) : CallA ap 3 0 [] [.sl .frozen (bV b)] [] fun v _ => v = .bool true := by
  refine CallA.code (af := ac3) rfl (Nat.le_of_ble_eq_true rfl) ?_
  simp [ac3]
  refine first9 (by simp) ?_
  by_cases hl : (400 : Int) < b.length
  · simp [hl, bV_len]
  have hl' : b.length ≤ 400 := by omega
  simp [hl, bV_len, bV_dem]
  refine split10 (b := b) (by omega) (by simp) (fun ts tl e => ?_) fun ts at_ tl q e _ _ => ?_
  · simp
    obtain ⟨I, hI⟩ : ∃ I : Nat → St → Prop, ∀ n s, I n s ↔ (∃ i p f : Nat, i + n = ts.length ∧ p ≤ b.length ∧ (b.drop p).length < f ∧ lexF f p (b.drop p) = (ts.drop i, none) ∧ s.r 0 = .sl .frozen (bV b) ∧ s.r 3 = .bool true ∧ s.r 4 = .sl .frozen (ts.map tkV) ∧
      s.r 6 = .int .i64 p ∧ s.r 7 = .int .i64 i) := ⟨_, fun _ _ => Iff.rfl⟩
    refine loop_ind (CallA.hle ap) I ?_ (n := ts.length) ((hI _ _).2 ⟨0, 0, b.length + 1, by simp, by simp, by simp, by simpa using e, by simp, by simp, by simp, by simp, by simp⟩)
    have hcnt : ts.length ≤ b.length := by
      have := lex_cnt (b.length + 1) 0 b
      rw [e] at this
      exact this
    clear e
    rintro n ⟨r, lo, h'⟩ hst
    obtain ⟨i, p, f, hin, hp, hf, hlx, r0, r3, r4, r6, r7⟩ := (hI _ _).1 hst
    simp only at r0 r3 r4 r6 r7
    have hle : i ≤ ts.length := by omega
    obtain ⟨e, g, u, he, hd, hg, hwhich⟩ : ∃ (e : Nat) (g u : Bs), e = p + g.length ∧ b.drop p = g ++ u ∧ gap false g = true ∧ ((i = ts.length ∧ e = b.length) ∨
        ∃ (h : i < ts.length) (u' : Bs) (f' : Nat), ts[i].p = e ∧ ts[i].s ≠ [] ∧ u = ts[i].s ++ u' ∧ u'.length < f' ∧ lexF f' (e + ts[i].s.length) u' = (ts.drop (i + 1), none)) := by
      rcases gaps f p (b.drop p) false (ts.drop i) (.inl rfl) hlx hf with ⟨h1, h2⟩ | ⟨t, ts', g, u, f', a1, a2, a3, a4, a5, a6, a7⟩
      · exact ⟨b.length, b.drop p, [], by simp; omega, by simp, h2, .inl ⟨by have := List.drop_eq_nil_iff.1 h1; omega, rfl⟩⟩
      · have hi : i < ts.length := by
          have := congrArg List.length a1
          simp at this
          omega
        rw [List.drop_eq_getElem_cons hi] at a1
        simp only [List.cons.injEq] at a1
        obtain ⟨rfl, rfl⟩ := a1
        exact ⟨_, g, _, rfl, a2, a5, .inr ⟨hi, u, f', a3, a4, rfl, a6, by rw [← a3]; exact a7⟩⟩
    have hel : e ≤ b.length := by
      have := congrArg List.length hd
      simp at this
      omega
    have hgd : g = (b.drop p).take (e - p) := by rw [hd, he]; simp
    have n1 : ¬ e < p := by omega
    have n2 : ¬ b.length < e := by omega
    have n3 : ¬ b.length < p := by omega
    rcases hwhich with ⟨hi, heb⟩ | ⟨hi, u', f', hte, hne, hu, hf', hlx'⟩
    case' inl => simp [forget, noLoc, r0, r4, r6, r7, hi, bV_len, n3]
    case' inr => simp [forget, noLoc, r0, r4, r6, r7, hi, hle, bV_len, tkV, tokV, hte, n1, n2]
    all_goals
      obtain ⟨J, hJ⟩ : ∃ J : Nat → St → Prop, ∀ n s, J n s ↔ (∃ (k : Nat) (rem : Bool), k + n = e ∧ gap rem ((b.drop k).take (e - k)) = true ∧ s.r 0 = .sl .frozen (bV b) ∧ s.r 3 = .bool true ∧ s.r 4 = .sl .frozen (ts.map tkV) ∧
        s.r 7 = .int .i64 i ∧ s.r 8 = .int .i64 e ∧ s.r 9 = .bool rem ∧ s.r 10 = .int .i64 k) := ⟨_, fun _ _ => Iff.rfl⟩
      refine loop_ind (CallA.hle ap) J ?_ (n := e - p) ((hJ _ _).2 ⟨p, false, by omega, by rw [← hgd]; exact hg, by simp [r0], by simp [r3], by simp [r4], by simp [r7, hi], by first | (simp; done) | simp [heb], by simp, by simp⟩)
      rintro m ⟨r, lo, h'⟩ hst
      obtain ⟨k, rem, hkm, hgap, r0, r3, r4, r7, r8, r9, r10⟩ := (hJ _ _).1 hst
      simp only at r0 r3 r4 r7 r8 r9 r10
      by_cases hk : k < e
      · have hkb : k < b.length := by omega
        have hw : IntKind.wrap .i64 ((k : Int) + 1) = ((k + 1 : Nat) : Int) := by rw [wrapn (by omega) (by omega)]; omega
        have hgc : (b.drop k).take (e - k) = b[k] :: (b.drop (k + 1)).take (e - (k + 1)) := by
          rw [List.drop_eq_getElem_cons hkb, show e - k = (e - (k + 1)) + 1 from by omega]; rfl
        have hgh : ((b.drop (k + 1)).take (e - (k + 1))).head? = if k + 1 < e then b[k + 1]? else none := by
          by_cases h : k + 1 < e
          · rw [if_pos h, List.head?_take, if_neg (by omega), List.head?_drop]
          · rw [if_neg h, show e - (k + 1) = 0 from by omega]; rfl
        rw [hgc] at hgap
        simp only [gap, Bool.and_eq_true, hgh] at hgap
        obtain ⟨ga, gb⟩ := hgap
        have fin : ∀ (rem' : Bool) (s : St), s.r 0 = .sl .frozen (bV b) → s.r 3 = .bool true → s.r 4 = .sl .frozen (ts.map tkV) → s.r 7 = .int .i64 i → s.r 8 = .int .i64 e → s.r 9 = .bool rem' → s.r 10 = .int .i64 ((k + 1 : Nat) : Int) →
            gap rem' ((b.drop (k + 1)).take (e - (k + 1))) = true → Again J m s := fun rem' s q0 q3 q4 q7 q8 q9 q10 q => ⟨m - 1, by omega, (hJ _ _).2 ⟨k + 1, rem', by omega, q, q0, q3, q4, q7, q8, q9, q10⟩⟩
        by_cases c32 : b[k].toNat = 32
        · simp [c32] at gb
          simp [forget, noLoc, r0, r8, r9, r10, bV_len, bV_at, hk, hkb, c32]
          cases rem <;> simp [r0, r10, bV_len, bV_at, hkb, hw, c32]
          · exact fin false _ (by simp [r0]) (by simp [r3]) (by simp [r4]) (by simp [r7]) (by simp [r8]) (by simp [r9]) (by simp) (by simpa using gb)
          · exact fin true _ (by simp [r0]) (by simp [r3]) (by simp [r4]) (by simp [r7]) (by simp [r8]) (by simp [r9]) (by simp) (by simpa using gb)
        by_cases c9 : b[k].toNat = 9
        · simp [c9] at gb
          simp [forget, noLoc, r0, r8, r9, r10, bV_len, bV_at, hk, hkb, c9]
          cases rem <;> simp [r0, r10, bV_len, bV_at, hkb, hw, c9]
          · exact fin false _ (by simp [r0]) (by simp [r3]) (by simp [r4]) (by simp [r7]) (by simp [r8]) (by simp [r9]) (by simp) (by simpa using gb)
          · exact fin true _ (by simp [r0]) (by simp [r3]) (by simp [r4]) (by simp [r7]) (by simp [r8]) (by simp [r9]) (by simp) (by simpa using gb)
        by_cases c13 : b[k].toNat = 13
        · simp [c13] at gb
          simp [forget, noLoc, r0, r8, r9, r10, bV_len, bV_at, hk, hkb, c13]
          cases rem <;> simp [r0, r10, bV_len, bV_at, hkb, hw, c13]
          · exact fin false _ (by simp [r0]) (by simp [r3]) (by simp [r4]) (by simp [r7]) (by simp [r8]) (by simp [r9]) (by simp) (by simpa using gb)
          · exact fin true _ (by simp [r0]) (by simp [r3]) (by simp [r4]) (by simp [r7]) (by simp [r8]) (by simp [r9]) (by simp) (by simpa using gb)
        by_cases c10 : b[k].toNat = 10
        · simp [c10] at gb
          simp [forget, noLoc, r0, r8, r10, bV_len, bV_at, hk, hkb, hw, c10]
          exact fin false _ (by simp [r0]) (by simp [r3]) (by simp [r4]) (by simp [r7]) (by simp [r8]) (by simp) (by simp) (by simpa using gb)
        have nb : isBl b[k] = false := by simp [isBl, c32, c9, c10, c13]
        have q32 : ((b[k].toNat : Int) == 32) = false := (eqn b[k] 32).trans (beq_false_of_ne c32)
        have m32 : ((b[k].toNat : Int) != 32) = true := congrArg (! ·) q32
        have q9 : ((b[k].toNat : Int) == 9) = false := (eqn b[k] 9).trans (beq_false_of_ne c9)
        have m9 : ((b[k].toNat : Int) != 9) = true := congrArg (! ·) q9
        have q10 : ((b[k].toNat : Int) == 10) = false := (eqn b[k] 10).trans (beq_false_of_ne c10)
        have m10 : ((b[k].toNat : Int) != 10) = true := congrArg (! ·) q10
        have q13 : ((b[k].toNat : Int) == 13) = false := (eqn b[k] 13).trans (beq_false_of_ne c13)
        have m13 : ((b[k].toNat : Int) != 13) = true := congrArg (! ·) q13
        simp only [nb, Bool.or_false, Bool.and_eq_true] at ga
        rw [ga.1, ga.2] at gb
        replace ga := ga.1
        simp only [Bool.and_true] at gb
        have hw1 := hw
        by_cases c45 : b[k].toNat = 45
        · by_cases hk1 : k + 1 < e
          · have hkb1 : k + 1 < b.length := by omega
            have hk2 : (k : Int) + 1 < e := by omega
            have hk3 : ((k : Int) + 1).toNat = k + 1 := by omega
            have hk4 : (0 : Int) ≤ (k : Int) + 1 := by omega
            simp only [if_pos hk1, List.getElem?_eq_getElem hkb1, Option.any_some] at ga
            by_cases d45 : b[k + 1].toNat = 45
            · simp [forget, noLoc, r0, r8, r10, bV_len, bV_at, hk, hkb, hw, c45, hk2, hk3, hk4, hkb1, d45]
              exact fin true _ (by simp [r0]) (by simp [r3]) (by simp [r4]) (by simp [r7]) (by simp [r8]) (by simp) (by simp) gb
            · have qd : ((b[k + 1].toNat : Int) == 45) = false := (eqn b[k + 1] 45).trans (beq_false_of_ne d45)
              simp [d45] at ga
              subst ga
              simp [forget, noLoc, r0, r8, r9, r10, bV_len, bV_at, hk, hkb, hw, c45, hk2, hk3, hk4, hkb1, qd]
              exact fin true _ (by simp [r0]) (by simp [r3]) (by simp [r4]) (by simp [r7]) (by simp [r8]) (by simp [r9]) (by simp) gb
          · have hk2 : ¬ (k : Int) + 1 < e := by omega
            simp [if_neg hk1] at ga
            subst ga
            simp [forget, noLoc, r0, r8, r9, r10, bV_len, bV_at, hk, hkb, hw, c45, hk2]
            exact fin true _ (by simp [r0]) (by simp [r3]) (by simp [r4]) (by simp [r7]) (by simp [r8]) (by simp [r9]) (by simp) gb
        · have q45 : ((b[k].toNat : Int) == 45) = false := (eqn b[k] 45).trans (beq_false_of_ne c45)
          simp [c45] at ga
          subst ga
          simp [forget, noLoc, r0, r8, r9, r10, bV_len, bV_at, hk, hkb, hw, q10, q45]
          exact fin true _ (by simp [r0]) (by simp [r3]) (by simp [r4]) (by simp [r7]) (by simp [r8]) (by simp [r9]) (by simp) gb
      · have hke : k = e := by omega
        first
          | simp [forget, noLoc, r3, r4, r7, r8, r10, hk, hi]
            done
          | have hsl : (bV b).drop e = bV ts[i].s ++ bV u' := by
              have : b.drop e = u := by rw [he, ← List.drop_drop, hd]; simp
              rw [show (bV b).drop e = bV (b.drop e) from (List.map_drop ..).symm, this, hu]
              simp [bV]
            have nei : ((i : Int) == (ts.length : Int)) = false := beq_false_of_ne (by omega)
            have hlen : e + ts[i].s.length ≤ b.length := by
              have := congrArg List.length hsl
              simp [bV_len] at this
              omega
            have hpos : 0 < ts[i].s.length := List.length_pos_iff.2 hne
            have hwe : IntKind.wrap .i64 ((e : Int) + (ts[i].s.length : Int)) = ((e + ts[i].s.length : Nat) : Int) := by rw [wrapn (by omega) (by omega)]; omega
            have nel : ((ts[i].s.length : Int) == 0) = false := beq_false_of_ne (by omega)
            have hn2 : ¬ (b.length : Int) < (e : Int) + (ts[i].s.length : Int) := by omega
            have hwi : IntKind.wrap .i64 ((i : Int) + 1) = ((i + 1 : Nat) : Int) := by
              have := hcnt
              rw [wrapn (by omega) (by omega)]; omega
            simp [forget, noLoc, r0, r4, r7, r8, r10, hk, hi, tkV, tokV, bV_len, nei, nel, hn2, hwe]
            have ht1 : ((e : Int) + (ts[i].s.length : Int)).toNat = e + ts[i].s.length := by omega
            have hc1 : ∀ v ∈ bV b, v.cells.length = 1 := bV_cells b
            have hp1 : (0 : Int) ≤ (e : Int) + (ts[i].s.length : Int) := by omega
            have hs2 : ((bV b).drop e).take ts[i].s.length = bV ts[i].s := by
              rw [hsl, show ts[i].s.length = (bV ts[i].s).length from (bV_len _).symm]; simp
            simp [sliceV, bnd, bV_len, ht1, hp1, hlen, hs2]
            rw [if_pos (.inr hc1)]
            have hdr : b.drop (e + ts[i].s.length) = u' := by
              have : b.drop e = u := by rw [he, ← List.drop_drop, hd]; simp
              rw [← List.drop_drop, this, hu]
              simp
            simp [convV, bV_text, r7, r8, hwe, hwi]
            exact ⟨n - 1, by omega, (hI _ _).2 ⟨i + 1, e + ts[i].s.length, f', by omega, hlen, by rw [hdr]; exact hf', by rw [hdr]; exact hlx', by simp [r0], by simp [r3], by simp [r4], by simp, by simp⟩⟩
  · simp [errV]

end Go.Lt
