/- The law LexerSays on the abstract machine. -/
import Derived.Test.YtjfflpknmhflfaaDoorMtLr
namespace Go.Mt
open Go.Am Go.Proofs
set_option maxRecDepth 100000
set_option maxHeartbeats 2000000

section
variable {bs : List Nat} {h : List Ob} {Q : V → List Ob → Prop}

theorem sameN (hq : Q (.bool true) h) : CallA ap 12 0 bs [.nili, .agg [.int .i64 0, .bool false, .int .i64 0]] h Q := by
  refine CallA.code (af := ac12) rfl (Nat.le_of_ble_eq_true rfl) ?_
  simp [ac12]
  refine faultN ?_
  simp
  exact sameF _ _ _ (by simpa using hq)

end

theorem lex_cnt : ∀ (f p : Nat) (b : Bs), (lexF f p b).1.length ≤ b.length
  | 0, _, _ => by simp [lexF]
  | f + 1, p, b => by
    by_cases hb : b = []
    · subst hb
      simp [lex_nil]
    by_cases h0 : 0 < blankN b
    · rw [lex_blank h0]
      have := lex_cnt f (p + blankN b) (b.drop (blankN b))
      simp at this
      omega
    · cases hw : wordT b with
      | none => simp [lexF, hb, h0, hw]
      | some v =>
        obtain ⟨k, s, n⟩ := v
        obtain ⟨w1, u, w2⟩ := word_pre hw
        rw [lex_word (by omega) hw]
        have h1 := lex_cnt f (p + s.length) (b.drop s.length)
        have h2 := congrArg List.length w2
        have : 0 < s.length := List.length_pos_iff.2 w1
        simp at h1 h2 ⊢
        omega

def kL (n : Nat) : List (Nat × V) := [(11, .ptr (n + 1) 0), (4, .ptr 0 0), (10, .ptr n 0)]
/-- What lies in memory when so many words have been handed out. -/
def YL (h : List Ob) (b : Bs) (bad : List V) : List Tk → List Ob
  | [] => h ++ [.box [.sl .clip []], .box bad, .box [.sl .frozen (bV b)], .loop (8 * 64) (kL h.length) 0 none]
  | t :: ts => h ++ [.box [.sl (.fam (h.length + 4)) ((t :: ts).map tkV)], .box bad, .box [.sl .frozen (bV b)], .loop (8 * 64) (kL h.length) 0 none, .fam (t :: ts).length 4]
def nF : List V := [.int .i64 0, .bool false, .int .i64 0]
def eF (at_ : Nat) : List V := [.int .i64 101, .bool true, .int .i64 at_]

section
variable {bs : List Nat} {h : List Ob} {Q : V → List Ob → Prop}

theorem says_all (b : Bs) (hb : b.length ≤ 500) (ok : ∀ (r : Nat) (xs : List V), okStore bs r xs = True)
    (h1 : ∀ ts, lexF (b.length + 1) 0 b = (ts, none) → Q (.tup []) (YL h b nF ts)) (h2 : ∀ ts at_, lexF (b.length + 1) 0 b = (ts, some at_) → Q (.tup []) (YL h b (eF at_) ts ++ [errB at_])) :
    CallA ap 34 0 bs [.yld (h.length + 3), .ptr (h.length + 2) 0] (YL h b nF []) Q := by
  have gt : ∀ (l : List Ob) (i : Nat), (h ++ l)[h.length + i]? = l[i]? := fun l i => by rw [List.getElem?_append_right (by omega)]; congr 1; omega
  have gt0 : ∀ (l : List Ob), (h ++ l)[h.length]? = l[0]? := fun l => by rw [List.getElem?_append_right (by omega)]; congr 1; omega
  have st : ∀ (l : List Ob) (i : Nat) (v : Ob), (h ++ l).set (h.length + i) v = h ++ l.set i v := fun l i v => by
    rw [List.set_append_right _ _ (by omega)]; congr 2; omega
  have st0 : ∀ (l : List Ob) (v : Ob), (h ++ l).set h.length v = h ++ l.set 0 v := fun l v => by
    rw [List.set_append_right _ _ (by omega)]; congr 2; omega
  refine all34 (by omega) true (Y := YL h b nF) (YE := fun ts at_ => YL h b (eF at_) ts ++ [errB at_]) (p := h.length + 2) ?_ ?_ ?_ h1 h2
  · intro ts
    cases ts <;> simp [YL]
  · intro ts t Q hl hq
    cases ts with
    | nil =>
      refine CallA.yld (key := 8 * 64) (regs := kL h.length) (ab := ab8_0) (by simp [YL]) rfl rfl ?_
      simp [ab8_0, YL, kL, nF, startB, splice, asgP, rnd, rndO, st, tkV, tokV]
      refine faultN ?_
      simp [splice, st, st0, ok, lim]
      simpa [YL, kL, nF, tkV, tokV] using hq
    | cons t0 ts =>
      have hl2 : ts.length + 1 + 1 ≤ lim := by simp only [lim]; simp at hl; omega
      refine CallA.yld (key := 8 * 64) (regs := kL h.length) (ab := ab8_0) (by simp [YL]) rfl rfl ?_
      simp [ab8_0, YL, kL, nF, startB, splice, asgP, rnd, rndO, st, tkV, tokV]
      refine faultN ?_
      simp [splice, st, st0, ok, tkV, tokV, hl2]
      refine ⟨fun v hv => ?_, ?_⟩
      · rcases hv with ⟨x, _, rfl⟩ | rfl <;> rfl
      · simpa [YL, kL, nF, tkV, tokV] using hq
  · intro ts at_ Q hl hq
    cases ts with
    | nil =>
      refine CallA.yld (key := 8 * 64) (regs := kL h.length) (ab := ab8_0) (by simp [YL]) rfl rfl ?_
      simp [ab8_0, YL, kL, nF, startB, splice, asgP, rnd, rndO, st, tokV, errV]
      refine faultL (h.length + 4) at_ (by simp) ?_
      simp [splice, st, ok, faultV]
      simpa [YL, kL, eF] using hq
    | cons t0 ts =>
      refine CallA.yld (key := 8 * 64) (regs := kL h.length) (ab := ab8_0) (by simp [YL]) rfl rfl ?_
      simp [ab8_0, YL, kL, nF, startB, splice, asgP, rnd, rndO, st, tkV, tokV, errV]
      refine faultL (h.length + 5) at_ (by simp) ?_
      simp [splice, st, ok, faultV]
      simpa [YL, kL, eF, tkV, tokV] using hq

end

theorem lexerSays (b s : Bs) : CallA ap 8 0 [] [.sl .frozen (bV b), .str s] [] fun v _ => v = .bool true := by
  refine CallA.code (af := ac8) rfl (Nat.le_of_ble_eq_true rfl) ?_
  simp [ac8]
  refine first9 (by simp) ?_
  have ok : ∀ (r : Nat) (xs : List V), okStore [0] r xs = True := fun r xs => eq_true fun x hx hlt => by
    simp at hx
    omega
  by_cases hl : (500 : Int) < b.length
  · simp [hl, bV_len, ok, splice]
  by_cases hl2 : (80 : Int) < s.length
  · simp [hl, hl2, bV_len, ok, splice]
  have hb : b.length ≤ 500 := by omega
  have hs : s.length ≤ 80 := by omega
  simp [hl, hl2, bV_len, bV_dem]
  refine split10 (b := b) (by omega) (by simp) (fun ts tl e => ?_) fun ts at_ tl q e hq0 hq1 => ?_
  · simp [bV_dem]
    refine rsplit b (by omega) (fun ts' e' => ?_) fun ts' at_ e' => ?_
    · have : ts' = ts := congrArg Prod.fst (e'.symm.trans e)
      subst this
      simp [splice, tk_dem]
      have hcnt : ts'.length < 1000000 := by
        have := lex_cnt (b.length + 1) 0 b
        rw [e] at this
        simp at this
        omega
      refine sameToks ts' hcnt ?_
      simp
      refine sameN ?_
      simp
      refine CallA.code (af := ac19) rfl (Nat.le_of_ble_eq_true rfl) ?_
      simp [ac19, splice, ok]
      refine CallA.code (af := ac20) rfl (Nat.le_of_ble_eq_true rfl) ?_
      simp [ac20, bV_dem]
      have gt : ∀ (l : List Ob) (i : Nat), (tl ++ l)[tl.length + i]? = l[i]? := fun l i => by rw [List.getElem?_append_right (by omega)]; congr 1; omega
      have gt0 : ∀ (l : List Ob), (tl ++ l)[tl.length]? = l[0]? := fun l => by rw [List.getElem?_append_right (by omega)]; congr 1; omega
      have e0 : (Ob.box [V.bool false] :: (List.take (tl.length + 1) (tl ++ [Ob.box [V.sl Tag.clip []]]) ++ [Ob.box [V.int IntKind.i64 0, V.bool false, V.int IntKind.i64 0], Ob.box [V.sl Tag.frozen (bV b)],
          Ob.loop (8 * 64) [(11, V.ptr (tl.length + 1 + 1) 0), (4, V.ptr 0 0), (10, V.ptr (tl.length + 1) 0)] 0 none])) = YL (Ob.box [V.bool false] :: tl) b nF [] := by
        rw [List.take_of_length_le (by simp)]
        simp [YL, kL, nF]
      rw [show (Ob.box [V.bool false] :: (List.take (tl.length + 1) (tl ++ [Ob.box [V.sl Tag.clip []]]) ++ _) : List Ob) = _ from e0]
      refine says_all (h := Ob.box [V.bool false] :: tl) b hb ok (fun ts e2 => ?_) fun ts at_ e2 => ?_
      · have : ts = ts' := congrArg Prod.fst (e2.symm.trans e)
        subst this
        cases ts with
        | nil =>
          simp [YL, kL, nF]
          refine sameF _ _ _ ?_
          simp
          refine sameToks [] hcnt ?_
          simp
          refine low14 s (by omega) ?_
          simp
          refine rlow s (by omega) ?_
          simp
          refine high15 s (by omega) ?_
          simp
          refine rhigh s (by omega) ?_
          simp
          refine loper s ?_
          simp
          refine roper s ?_
          simp
          refine res16 s (by omega) ?_
          simp
          refine rres s ?_
          simp [ok, splice]
        | cons t0 ts =>
          have hdm := tk_dem (t0 :: ts)
          simp at hdm
          simp [YL, kL, nF]
          refine sameF _ _ _ ?_
          simp [hdm]
          refine sameToks (t0 :: ts) hcnt ?_
          simp
          refine low14 s (by omega) ?_
          simp
          refine rlow s (by omega) ?_
          simp
          refine high15 s (by omega) ?_
          simp
          refine rhigh s (by omega) ?_
          simp
          refine loper s ?_
          simp
          refine roper s ?_
          simp
          refine res16 s (by omega) ?_
          simp
          refine rres s ?_
          simp [ok, splice]
      · have := congrArg Prod.snd (e2.symm.trans e)
        simp at this
    · have := congrArg Prod.snd (e'.symm.trans e)
      simp at this
  · simp [bV_dem, errV]
    refine rsplit b (by omega) (fun ts' e' => ?_) fun ts' at' e' => ?_
    · have := congrArg Prod.snd (e'.symm.trans e)
      simp at this
    · have hat : at' = at_ := Option.some.inj (congrArg Prod.snd (e'.symm.trans e))
      subst hat
      simp [splice, faultV]
      refine sameToks [] (by decide) ?_
      simp
      refine sameL q at' at' (by simpa using hq1) ?_
      simp
      refine CallA.code (af := ac19) rfl (Nat.le_of_ble_eq_true rfl) ?_
      simp [ac19, splice, ok]
      refine CallA.code (af := ac20) rfl (Nat.le_of_ble_eq_true rfl) ?_
      simp [ac20, bV_dem]
      have gt : ∀ (l : List Ob) (i : Nat), (tl ++ l)[tl.length + i]? = l[i]? := fun l i => by rw [List.getElem?_append_right (by omega)]; congr 1; omega
      have gt0 : ∀ (l : List Ob), (tl ++ l)[tl.length]? = l[0]? := fun l => by rw [List.getElem?_append_right (by omega)]; congr 1; omega
      have e0 : (Ob.box [V.bool false] :: (List.take (tl.length + 1) (tl ++ [Ob.box [V.sl Tag.clip []]]) ++ [Ob.box [V.int IntKind.i64 0, V.bool false, V.int IntKind.i64 0], Ob.box [V.sl Tag.frozen (bV b)],
          Ob.loop (8 * 64) [(11, V.ptr (tl.length + 1 + 1) 0), (4, V.ptr 0 0), (10, V.ptr (tl.length + 1) 0)] 0 none])) = YL (Ob.box [V.bool false] :: tl) b nF [] := by
        rw [List.take_of_length_le (by simp)]
        simp [YL, kL, nF]
      rw [show (Ob.box [V.bool false] :: (List.take (tl.length + 1) (tl ++ [Ob.box [V.sl Tag.clip []]]) ++ _) : List Ob) = _ from e0]
      refine says_all (h := Ob.box [V.bool false] :: tl) b hb ok (fun ts e2 => ?_) fun ts at2 e2 => ?_
      · have := congrArg Prod.snd (e2.symm.trans e)
        simp at this
      · have hat : at2 = at' := Option.some.inj (congrArg Prod.snd (e2.symm.trans e))
        subst hat
        cases ts with
        | nil =>
          simp [YL, kL, eF, errB]
          refine sameF _ _ _ ?_
          simp
          refine low14 s (by omega) ?_
          simp
          refine rlow s (by omega) ?_
          simp
          refine high15 s (by omega) ?_
          simp
          refine rhigh s (by omega) ?_
          simp
          refine loper s ?_
          simp
          refine roper s ?_
          simp
          refine res16 s (by omega) ?_
          simp
          refine rres s ?_
          simp [ok, splice]
        | cons t0 ts =>
          simp [YL, kL, eF, errB]
          refine sameF _ _ _ ?_
          simp
          refine low14 s (by omega) ?_
          simp
          refine rlow s (by omega) ?_
          simp
          refine high15 s (by omega) ?_
          simp
          refine rhigh s (by omega) ?_
          simp
          refine loper s ?_
          simp
          refine roper s ?_
          simp
          refine res16 s (by omega) ?_
          simp
          refine rres s ?_
          simp [ok, splice]

end Go.Mt
