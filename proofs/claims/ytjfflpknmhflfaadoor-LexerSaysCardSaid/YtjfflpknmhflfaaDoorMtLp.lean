/- The reference's word: operators and marks; all: on the abstract machine. -/
import Derived.Test.YtjfflpknmhflfaaDoorMtLo
namespace Go.Mt
open Go.Am Go.Proofs
set_option maxRecDepth 100000
set_option maxHeartbeats 2000000

theorem find_at {f : Bs → Bool} : ∀ (L : List Bs) (i : Nat) (hi : i < L.length), (∀ j (hj : j < L.length), j < i → f L[j] = false) → f L[i] = true → L.find? f = some L[i]
  | s :: L, 0, _, _, h => by
    simp only [List.getElem_cons_zero] at h ⊢
    simp only [List.find?, h]
  | s :: L, i + 1, hi, h, h1 => by
    have h0 := h 0 (by simp) (by omega)
    simp only [List.getElem_cons_zero] at h0
    simp only [List.getElem_cons_succ] at h1 ⊢
    simp only [List.find?, h0]
    exact find_at L i (by simpa using hi) (fun j hj hji => h (j + 1) (by simpa using hj) (by omega)) h1
theorem find_no {f : Bs → Bool} (L : List Bs) (h : ∀ j (hj : j < L.length), f L[j] = false) : L.find? f = none := by
  rw [List.find?_eq_none]
  intro s hs
  obtain ⟨j, hj, rfl⟩ := List.getElem_of_mem hs
  simp [h j hj]

/-- Behind the three long marks. -/
def rsT (c : UInt8) (T e : Bs) (L : List Bs) (M : Bs) : Wd :=
  match L.find? (isOp T e) with
  | some s => some (5, s, 0)
  | none => if M.contains c = true then some (6, e, 0) else none
theorem rs_nil (c : UInt8) (e : Bs) : rsW c [] e = rsT c [] e OPS MKS := rfl
theorem rs_two (c d : UInt8) (r e : Bs) : rsW c (d :: r) e = if ((c == 45 && d == 62) || (c == 61 && d == 62) || (c == 58 && d == 58)) = true then some (6, [c, d], 0) else rsT c [c, d] e OPS MKS := by
  have p : ∀ a b : UInt8, ([c, d] == ([a, b] : Bs)) = (c == a && d == b) := fun a b => by simp
  rw [← p, ← p, ← p]
  rfl
theorem mks_low : ∀ c ∈ MKS, c.toNat < 128 := by decide
theorem hone (c : UInt8) (h : c.toNat < 128) : (encB c).length = 1 := by
  rcases enc_is c with ⟨_, e⟩ | ⟨e, _⟩
  · rw [e]; rfl
  · omega

section
variable {bs : List Nat} {h : List Ob} {Q : V → List Ob → Prop}

theorem rwordS (c : UInt8) (r : Bs) (e1 : (isSm c || isGr c) = false) (ed : isDg c = false) (e39 : ¬ c.toNat = 39) (hb : (c :: r).length < 1000000) (hq : Q (rwV (wordT (c :: r))) h) : CallA ap 32 0 bs [.sl .frozen (bV (c :: r))] h Q := by
  refine CallA.code (af := ac32) rfl (Nat.le_of_ble_eq_true rfl) ?_
  have e0 : bV (c :: r) = .int .u8 c.toNat :: bV r := rfl
  have hd0 := bV_dem (c :: r)
  have hword : wordT (c :: r) = rsW c r (encB c) := by
    rw [sg_is]
    simp only [wordT, e1, ed, e39, if_false, Bool.false_eq_true]
    rfl
  rw [hword] at hq
  have g39 : ((c.toNat : Int) == 39) = false := (eqn c 39).trans (beq_false_of_ne e39)
  have hE : (Utf8.encode (c.toNat : Int)).data.toList = encB c := rfl
  have eO : [V.str [61, 61], V.str [47, 61], V.str [60, 61], V.str [62, 61], V.str [60], V.str [62], V.str [43], V.str [45], V.str [42]] = OPS.map V.str := rfl
  simp [ac32, e0]
  refine rsmall c ?_
  obtain ⟨e2, e3⟩ := Bool.or_eq_false_iff.1 e1
  rw [e2]
  simp
  refine rgreat c ?_
  rw [e3]
  simp
  refine rdigit c ?_
  rw [ed]
  rw [← e0]
  cases r with
  | nil =>
    rw [rs_nil] at hq
    unfold rsT at hq
    simp [g39, bV_len]
    refine CallA.code (af := ac44) rfl (Nat.le_of_ble_eq_true rfl) ?_
    simp [ac44]
    rw [eO]
    have hlO : OPS.length < 1000 := by decide
    generalize OPS = L at hq hlO
    obtain ⟨I, hI⟩ : ∃ I : Nat → St → Prop, ∀ n σ, I n σ ↔ (∃ i : Nat, i + n = L.length ∧ (∀ j (hj : j < L.length), j < i → isOp ([] : Bs) (encB c) L[j] = false) ∧ σ.r 2 = .loc 2 0 ∧ σ.r 4 = .int .u8 c.toNat ∧ σ.r 12 = .str ([] : Bs) ∧ (∃ tg, σ.r 13 = .sl tg (L.map .str)) ∧ σ.r 14 = .int .i64 i ∧
      σ.l 2 = some [.int .i64 0, .int .i64 0, .str [], .int .i64 0] ∧ σ.h = h) := ⟨_, fun _ _ => Iff.rfl⟩
    refine loop_ind (CallA.hle ap) I ?_ (n := L.length) ((hI _ _).2 ⟨0, by simp, by simp, by simp, by simp, by simp, ⟨_, by simp; rfl⟩, by simp, by simp, rfl⟩)
    rintro n ⟨r', lo, h'⟩ hst
    obtain ⟨i, hin, hno, r2, r4, r12, ⟨tg, r13⟩, r14, l2, rfl⟩ := (hI _ _).1 hst
    simp only at r2 r4 r12 r13 r14 l2
    by_cases hi : i < L.length
    · have hw : IntKind.wrap .i64 ((i : Int) + 1) = ((i + 1 : Nat) : Int) := by rw [wrapn (by omega) (by omega)]; omega
      have hf := find_at (f := isOp ([] : Bs) (encB c)) L i hi hno
      cases ho : isOp ([] : Bs) (encB c) L[i]
      · have ho2 := ho
        simp only [isOp, Bool.or_eq_false_iff] at ho2
        obtain ⟨o1, o2⟩ := ho2
        simp [forget, noLoc, locOf, r4, r12, r13, r14, hi, o1, convV, hE, o2, hw]
        exact ⟨n - 1, by omega, (hI _ _).2 ⟨i + 1, by omega, fun j hj hji => by
          by_cases hji' : j = i
          · subst hji'; exact ho
          · exact hno j hj (by omega), by simp [r2], by simp [r4], by simp [r12], ⟨tg, by simp [r13]⟩, by simp, by simp [l2], rfl⟩⟩
      · have hf' := hf ho
        rw [hf'] at hq
        simp only at hq
        simp only [isOp, Bool.or_eq_true] at ho
        cases o1 : (([] : Bs) == L[i])
        · have o2 : (encB c == L[i]) = true := ho.resolve_left (by simp [o1])
          simp [forget, noLoc, locOf, r2, r4, r12, r13, r14, l2, hi, o1, convV, hE, o2, splice]
          exact ⟨rfl, by simpa [rwV, tokV] using hq⟩
        · simp [forget, noLoc, locOf, r2, r12, r13, r14, l2, hi, o1, splice]
          exact ⟨rfl, by simpa [rwV, tokV] using hq⟩
    · have hf := find_no (f := isOp ([] : Bs) (encB c)) L fun j hj => hno j hj (by omega)
      rw [hf] at hq
      simp only at hq
      simp [forget, noLoc, locOf, r13, r14, hi]
      have eM : MKS = [40, 41, 123, 125, 44, 59, 61, 92, 124] := rfl
      have hlM : MKS.length < 1000 := by decide
      have hmk := mks_low
      rw [← eM]
      generalize MKS = M at hq hlM hmk
      obtain ⟨J, hJ⟩ : ∃ J : Nat → St → Prop, ∀ n σ, J n σ ↔ (∃ i : Nat, i + n = M.length ∧ (∀ j (hj : j < M.length), j < i → (M[j] == c) = false) ∧ σ.r 2 = .loc 2 0 ∧ σ.r 4 = .int .u8 c.toNat ∧ σ.r 15 = .str M ∧ σ.r 16 = .int .i64 i ∧
        σ.l 2 = some [.int .i64 0, .int .i64 0, .str [], .int .i64 0] ∧ σ.h = h') := ⟨_, fun _ _ => Iff.rfl⟩
      refine loop_ind (CallA.hle ap) J ?_ (n := M.length) ((hJ _ _).2 ⟨0, by simp, by simp, by simp [r2], by simp [r4], by simp, by simp, by simp [l2], rfl⟩)
      clear hst r2 r4 r12 r13 r14 l2 hi hno hin hf
      rintro n ⟨r', lo, h''⟩ hst
      obtain ⟨i, hin, hno, r2, r4, r15, r16, l2, rfl⟩ := (hJ _ _).1 hst
      simp only at r2 r4 r15 r16 l2
      by_cases hi : i < M.length
      · have hw : IntKind.wrap .i64 ((i : Int) + 1) = ((i + 1 : Nat) : Int) := by rw [wrapn (by omega) (by omega)]; omega
        have hcm : ((c.toNat : Int) == (M[i].toNat : Int)) = (M[i] == c) := by
          rw [Bool.eq_iff_iff, beq_iff_eq, beq_iff_eq]
          refine ⟨fun h => (UInt8.toNat_inj.1 (by omega)).symm, fun h => by rw [h]⟩
        cases ho : (M[i] == c)
        · simp [forget, noLoc, locOf, r4, r15, r16, hi, hcm, ho, hw]
          exact ⟨n - 1, by omega, (hJ _ _).2 ⟨i + 1, by omega, fun j hj hji => by
            by_cases hji' : j = i
            · subst hji'; exact ho
            · exact hno j hj (by omega), by simp [r2], by simp [r4], by simp [r15], by simp, by simp [l2], rfl⟩⟩
        · have hM : M.contains c = true := by
            rw [List.contains_iff_mem]
            have : M[i] = c := by simpa using ho
            rw [← this]
            exact List.getElem_mem hi
          rw [if_pos hM] at hq
          have hle : (encB c).length = 1 := hone c (hmk c (List.contains_iff_mem.1 hM))
          simp [forget, noLoc, locOf, r2, r4, r15, r16, l2, hi, hcm, ho, convV, hE, splice]
          simpa [rwV, tokV, hle] using hq
      · have hM : ¬ M.contains c = true := by
          rw [List.contains_iff_mem]
          intro hm
          obtain ⟨j, hj, e⟩ := List.getElem_of_mem hm
          have := hno j hj (by omega)
          rw [e] at this
          simp at this
        rw [if_neg hM] at hq
        simp [forget, noLoc, locOf, r2, r15, r16, l2, hi, splice]
        simpa [rwV, tokV] using hq
  | cons d r =>
    have g1 : (1 : Int) < (r.length : Int) + 1 + 1 := by omega
    rw [rs_two] at hq
    simp [g39, bV_len, g1, sliceV, bnd, bV_take, bV_text, convV]
    cases m1 : (c == 45 && d == 62)
    · rw [m1] at hq
      simp
      cases m2 : (c == 61 && d == 62)
      · rw [m2] at hq
        simp
        cases m3 : (c == 58 && d == 58)
        · rw [m3] at hq
          simp only [Bool.or_self, Bool.false_eq_true, if_false] at hq
          unfold rsT at hq
          simp
          refine CallA.code (af := ac44) rfl (Nat.le_of_ble_eq_true rfl) ?_
          simp [ac44]
          rw [eO]
          have hlO : OPS.length < 1000 := by decide
          generalize OPS = L at hq hlO
          obtain ⟨I, hI⟩ : ∃ I : Nat → St → Prop, ∀ n σ, I n σ ↔ (∃ i : Nat, i + n = L.length ∧ (∀ j (hj : j < L.length), j < i → isOp ([c, d] : Bs) (encB c) L[j] = false) ∧ σ.r 2 = .loc 2 0 ∧ σ.r 4 = .int .u8 c.toNat ∧ σ.r 12 = .str ([c, d] : Bs) ∧ (∃ tg, σ.r 13 = .sl tg (L.map .str)) ∧ σ.r 14 = .int .i64 i ∧
            σ.l 2 = some [.int .i64 0, .int .i64 0, .str [], .int .i64 0] ∧ σ.h = h) := ⟨_, fun _ _ => Iff.rfl⟩
          refine loop_ind (CallA.hle ap) I ?_ (n := L.length) ((hI _ _).2 ⟨0, by simp, by simp, by simp, by simp, by simp, ⟨_, by simp; rfl⟩, by simp, by simp, rfl⟩)
          rintro n ⟨r', lo, h'⟩ hst
          obtain ⟨i, hin, hno, r2, r4, r12, ⟨tg, r13⟩, r14, l2, rfl⟩ := (hI _ _).1 hst
          simp only at r2 r4 r12 r13 r14 l2
          by_cases hi : i < L.length
          · have hw : IntKind.wrap .i64 ((i : Int) + 1) = ((i + 1 : Nat) : Int) := by rw [wrapn (by omega) (by omega)]; omega
            have hf := find_at (f := isOp ([c, d] : Bs) (encB c)) L i hi hno
            cases ho : isOp ([c, d] : Bs) (encB c) L[i]
            · have ho2 := ho
              simp only [isOp, Bool.or_eq_false_iff] at ho2
              obtain ⟨o1, o2⟩ := ho2
              simp [forget, noLoc, locOf, r4, r12, r13, r14, hi, o1, convV, hE, o2, hw]
              exact ⟨n - 1, by omega, (hI _ _).2 ⟨i + 1, by omega, fun j hj hji => by
                by_cases hji' : j = i
                · subst hji'; exact ho
                · exact hno j hj (by omega), by simp [r2], by simp [r4], by simp [r12], ⟨tg, by simp [r13]⟩, by simp, by simp [l2], rfl⟩⟩
            · have hf' := hf ho
              rw [hf'] at hq
              simp only at hq
              simp only [isOp, Bool.or_eq_true] at ho
              cases o1 : (([c, d] : Bs) == L[i])
              · have o2 : (encB c == L[i]) = true := ho.resolve_left (by simp [o1])
                simp [forget, noLoc, locOf, r2, r4, r12, r13, r14, l2, hi, o1, convV, hE, o2, splice]
                exact ⟨rfl, by simpa [rwV, tokV] using hq⟩
              · simp [forget, noLoc, locOf, r2, r12, r13, r14, l2, hi, o1, splice]
                exact ⟨rfl, by simpa [rwV, tokV] using hq⟩
          · have hf := find_no (f := isOp ([c, d] : Bs) (encB c)) L fun j hj => hno j hj (by omega)
            rw [hf] at hq
            simp only at hq
            simp [forget, noLoc, locOf, r13, r14, hi]
            have eM : MKS = [40, 41, 123, 125, 44, 59, 61, 92, 124] := rfl
            have hlM : MKS.length < 1000 := by decide
            have hmk := mks_low
            rw [← eM]
            generalize MKS = M at hq hlM hmk
            obtain ⟨J, hJ⟩ : ∃ J : Nat → St → Prop, ∀ n σ, J n σ ↔ (∃ i : Nat, i + n = M.length ∧ (∀ j (hj : j < M.length), j < i → (M[j] == c) = false) ∧ σ.r 2 = .loc 2 0 ∧ σ.r 4 = .int .u8 c.toNat ∧ σ.r 15 = .str M ∧ σ.r 16 = .int .i64 i ∧
              σ.l 2 = some [.int .i64 0, .int .i64 0, .str [], .int .i64 0] ∧ σ.h = h') := ⟨_, fun _ _ => Iff.rfl⟩
            refine loop_ind (CallA.hle ap) J ?_ (n := M.length) ((hJ _ _).2 ⟨0, by simp, by simp, by simp [r2], by simp [r4], by simp, by simp, by simp [l2], rfl⟩)
            clear hst r2 r4 r12 r13 r14 l2 hi hno hin hf
            rintro n ⟨r', lo, h''⟩ hst
            obtain ⟨i, hin, hno, r2, r4, r15, r16, l2, rfl⟩ := (hJ _ _).1 hst
            simp only at r2 r4 r15 r16 l2
            by_cases hi : i < M.length
            · have hw : IntKind.wrap .i64 ((i : Int) + 1) = ((i + 1 : Nat) : Int) := by rw [wrapn (by omega) (by omega)]; omega
              have hcm : ((c.toNat : Int) == (M[i].toNat : Int)) = (M[i] == c) := by
                rw [Bool.eq_iff_iff, beq_iff_eq, beq_iff_eq]
                refine ⟨fun h => (UInt8.toNat_inj.1 (by omega)).symm, fun h => by rw [h]⟩
              cases ho : (M[i] == c)
              · simp [forget, noLoc, locOf, r4, r15, r16, hi, hcm, ho, hw]
                exact ⟨n - 1, by omega, (hJ _ _).2 ⟨i + 1, by omega, fun j hj hji => by
                  by_cases hji' : j = i
                  · subst hji'; exact ho
                  · exact hno j hj (by omega), by simp [r2], by simp [r4], by simp [r15], by simp, by simp [l2], rfl⟩⟩
              · have hM : M.contains c = true := by
                  rw [List.contains_iff_mem]
                  have : M[i] = c := by simpa using ho
                  rw [← this]
                  exact List.getElem_mem hi
                rw [if_pos hM] at hq
                have hle : (encB c).length = 1 := hone c (hmk c (List.contains_iff_mem.1 hM))
                simp [forget, noLoc, locOf, r2, r4, r15, r16, l2, hi, hcm, ho, convV, hE, splice]
                simpa [rwV, tokV, hle] using hq
            · have hM : ¬ M.contains c = true := by
                rw [List.contains_iff_mem]
                intro hm
                obtain ⟨j, hj, e⟩ := List.getElem_of_mem hm
                have := hno j hj (by omega)
                rw [e] at this
                simp at this
              rw [if_neg hM] at hq
              simp [forget, noLoc, locOf, r2, r15, r16, l2, hi, splice]
              simpa [rwV, tokV] using hq
        · rw [m3] at hq
          simp [splice]
          simpa [rwV, tokV] using hq
      · rw [m2] at hq
        simp [splice]
        simpa [rwV, tokV] using hq
    · rw [m1] at hq
      simp [splice]
      simpa [rwV, tokV] using hq

theorem rword (c : UInt8) (r : Bs) (hb : (c :: r).length < 1000000) (hq : Q (rwV (wordT (c :: r))) h) : CallA ap 32 0 bs [.sl .frozen (bV (c :: r))] h Q := by
  by_cases e1 : (isSm c || isGr c) = true
  · exact rwordN c r e1 hb hq
  · have e1 : (isSm c || isGr c) = false := by simpa using e1
    by_cases ed : isDg c = true
    · exact rwordD c r e1 ed hb hq
    · have ed : isDg c = false := by simpa using ed
      by_cases e39 : c.toNat = 39
      · exact rwordL c r e1 ed e39 hb hq
      · exact rwordS c r e1 ed e39 hb hq

end
end Go.Mt
