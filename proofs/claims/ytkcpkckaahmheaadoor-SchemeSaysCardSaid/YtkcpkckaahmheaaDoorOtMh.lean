/- Numbers as texts, names: on the abstract machine. -/
import Derived.Test.YtkcpkckaahmheaaDoorOtMc

namespace Go.Ot
open Go.Am Go.Proofs
set_option maxRecDepth 100000

theorem digits_step {v : Nat} (h : 10 ≤ v) : Lib.decDigits v = Lib.decDigits (v / 10) ++ [UInt8.ofNat (48 + v % 10)] := by
  rw [Lib.decDigits, dif_neg (by omega)]
theorem digits_len (v : Nat) : (Lib.decDigits v).length ≤ v + 1 := by
  induction v using Nat.strongRecOn with
  | _ v ih =>
    by_cases h : v < 10
    · rw [Lib.decDigits_one h]; simp
    · rw [digits_step (by omega)]
      have := ih (v / 10) (by omega)
      simp; omega

/-- A digit. -/
def dgt (v : Nat) : UInt8 := UInt8.ofNat (48 + v % 10)

section
variable {bs : List Nat} {h : List Ob} {Q : V → List Ob → Prop}

theorem dgt_u8 (v : Nat) : IntKind.wrap .u8 (48 + ((v : Int).tmod 10)) = 48 + ((v % 10 : Nat) : Int) := by
  have e1 : (v : Int).tmod 10 = ((v % 10 : Nat) : Int) := by rw [Int.tmod_eq_emod_of_nonneg (by omega)]; omega
  rw [e1]
  have key : ∀ d : Nat, d < 10 → IntKind.wrap .u8 (48 + (d : Int)) = 48 + (d : Int) := by decide
  exact key _ (by omega)
theorem dgt_text (v : Nat) : convV .text (.sl .clip [.int .u8 (48 + ((v % 10 : Nat) : Int))]) = some (.str [dgt v]) := by
  have e8 : (48 + ((v % 10 : Nat) : Int)).toNat = 48 + v % 10 := by omega
  simp only [convV, bytesV, e8, Option.map_some, dgt]

theorem number63 (v0 : Nat) (hv0 : v0 < 1000000) (hq : Q (.str (Lib.itoa v0)) h) : CallA ap 63 0 bs [.int .i64 v0] h Q := by
  refine CallA.code (af := ac63) rfl (Nat.le_of_ble_eq_true rfl) ?_
  rw [Lib.itoa_nonneg] at hq
  obtain ⟨T, hT⟩ : ∃ T, T = Lib.decDigits v0 := ⟨_, rfl⟩
  have hTl : T.length ≤ 1000001 := by rw [hT]; have := digits_len v0; omega
  rw [← hT] at hq
  simp [ac63]
  obtain ⟨I, hI⟩ : ∃ I : Nat → St → Prop, ∀ n s, I n s ↔ (∃ t : Nam, n < 1000000 ∧ Lib.decDigits n ++ t = T ∧ s.r 0 = .int .i64 (n : Nat) ∧ s.r 3 = .str t ∧ s.h = h) := ⟨_, fun _ _ => Iff.rfl⟩
  refine loop_ind (CallA.hle ap) I ?_ (n := v0) ((hI _ _).2 ⟨[], by simp [hT, hv0]⟩)
  rintro v ⟨r, lo, h'⟩ hst
  obtain ⟨t, hv, hdt, r0, r3, rfl⟩ := (hI _ _).1 hst
  simp only at r0 r3
  have htl : t.length ≤ 1000001 := by rw [← hdt] at hTl; simp at hTl; omega
  have h0 : (48 : Int) + (v : Int).tmod 10 = 48 + ((v % 10 : Nat) : Int) := by
    have e1 : (v : Int).tmod 10 = ((v % 10 : Nat) : Int) := by rw [Int.tmod_eq_emod_of_nonneg (by omega)]; omega
    rw [e1]
  have h1 : IntKind.wrap .i64 (48 + ((v % 10 : Nat) : Int)) = 48 + ((v % 10 : Nat) : Int) := wrap64 (by omega) (by omega)
  have h2 := dgt_u8 v
  rw [h0] at h2
  have h3 := dgt_text v
  have h4 : (v : Int).tdiv 10 = ((v / 10 : Nat) : Int) := by rw [Int.tdiv_eq_ediv_of_nonneg (by omega)]; omega
  have h5 : IntKind.wrap .i64 ((v / 10 : Nat) : Int) = ((v / 10 : Nat) : Int) := wrap64 (by omega) (by omega)
  have h6 : 1 + t.length ≤ 4611686018427387904 := by omega
  obtain ⟨q, hq'⟩ : ∃ q, q = v / 10 := ⟨_, rfl⟩
  obtain ⟨m, hm⟩ : ∃ m, m = v % 10 := ⟨_, rfl⟩
  rw [← hq'] at h4 h5
  rw [← hm] at h0 h1 h2 h3
  simp [forget, noLoc, r0, r3, h0, h1, h2, h3, h4, h5, binV, h6]
  refine condA_dec (fun d => ?_) fun d => ?_
  · have hv10 : v < 10 := by omega
    simp
    rw [Lib.decDigits_one hv10] at hdt
    have : dgt v = UInt8.ofNat (48 + v) := by unfold dgt; rw [Nat.mod_eq_of_lt hv10]
    rw [this]
    rw [← hdt] at hq
    exact hq
  · simp
    have hv10 : 10 ≤ v := by omega
    refine ⟨q, by omega, (hI _ _).2 ⟨dgt v :: t, by omega, ?_, by simp, by simp, rfl⟩⟩
    rw [digits_step hv10] at hdt
    rw [hq', ← hdt, dgt]; simp

/-- The n-th name. -/
def nameS (n : Int) : Nam := nm (n.toNat % 26) ++ (if 26 ≤ n.toNat then Lib.decDigits (n.toNat / 26) else [])

theorem nameG (n : Int) (h1 : -1000000 < n) (h2 : n < 1000000) (hq : Q (.str (nameS n)) h) : CallA ap 34 0 bs [.int .i64 n] h Q := by
  refine CallA.code (af := ac34) rfl (Nat.le_of_ble_eq_true rfl) ?_
  obtain ⟨i, hi⟩ : ∃ i, i = n.toNat := ⟨_, rfl⟩
  have hi2 : i < 1000000 := by omega
  have e0 : (if n < 0 then (0 : Int) else n) = (i : Int) := by split <;> omega
  have a1 : ∀ i : Nat, i < 26 → (Utf8.encode (97 + (i : Int))).data.toList = [UInt8.ofNat (97 + i)] := by decide
  have a2 : ∀ i : Nat, i < 26 → IntKind.wrap .i32 (97 + (i : Int)) = 97 + (i : Int) := by decide
  obtain ⟨m, hm⟩ : ∃ m, m = i % 26 := ⟨_, rfl⟩
  obtain ⟨d, hd⟩ : ∃ d, d = i / 26 := ⟨_, rfl⟩
  have hm26 : m < 26 := by omega
  have e4 : (i : Int).tmod 26 = (m : Int) := by rw [Int.tmod_eq_emod_of_nonneg (by omega)]; omega
  have e6 : (i : Int).tdiv 26 = (d : Int) := by rw [Int.tdiv_eq_ediv_of_nonneg (by omega)]; omega
  have e3 : IntKind.wrap .i64 (97 + (m : Int)) = 97 + (m : Int) := wrap64 (by omega) (by omega)
  have e5 : IntKind.wrap .i64 (d : Int) = (d : Int) := wrap64 (by omega) (by omega)
  have e7 : nm m = [97 + UInt8.ofNat m] := by simp [nm]
  have hs : nameS n = nm m ++ (if 26 ≤ i then Lib.decDigits d else []) := by rw [nameS, ← hi, ← hm, ← hd]
  rw [hs] at hq
  simp [ac34, e0, e4, e3, a2 m hm26, a1 m hm26]
  refine condA_dec (fun c => ?_) fun c => ?_
  · rw [if_pos (by omega)] at hq
    simp [e6, e5]
    refine itoaO _ (by omega) (by omega) ?_
    rw [Lib.itoa_nonneg]
    have hl := digits_len d
    have hl2 : 1 + (Lib.decDigits d).length ≤ 4611686018427387904 := by omega
    simp [binV, hl2]
    rw [e7] at hq
    simpa using hq
  · rw [if_neg (by omega), List.append_nil, e7] at hq
    simp
    exact hq

theorem nameR (n : Int) (h1 : -1000000 < n) (h2 : n < 1000000) (hq : Q (.str (nameS n)) h) : CallA ap 35 0 bs [.int .i64 n] h Q := by
  refine CallA.code (af := ac35) rfl (Nat.le_of_ble_eq_true rfl) ?_
  obtain ⟨i, hi⟩ : ∃ i, i = n.toNat := ⟨_, rfl⟩
  have hi2 : i < 1000000 := by omega
  have a2 : ∀ i : Nat, i < 26 → IntKind.wrap .u8 (97 + (i : Int)) = 97 + (i : Int) := by decide
  obtain ⟨m, hm⟩ : ∃ m, m = i % 26 := ⟨_, rfl⟩
  obtain ⟨d, hd⟩ : ∃ d, d = i / 26 := ⟨_, rfl⟩
  have hm26 : m < 26 := by omega
  have e4 : (i : Int).tmod 26 = (m : Int) := by rw [Int.tmod_eq_emod_of_nonneg (by omega)]; omega
  have e6 : (i : Int).tdiv 26 = (d : Int) := by rw [Int.tdiv_eq_ediv_of_nonneg (by omega)]; omega
  have e3 : IntKind.wrap .i64 (97 + (m : Int)) = 97 + (m : Int) := wrap64 (by omega) (by omega)
  have e5 : IntKind.wrap .i64 (d : Int) = (d : Int) := wrap64 (by omega) (by omega)
  have e8 : (97 + (m : Int)).toNat = 97 + m := by omega
  have hcv : convV .text (.sl .clip [.int .u8 (97 + (m : Int))]) = some (.str (nm m)) := by
    simp [convV, bytesV, nm, e8]
  obtain ⟨T, hT⟩ : ∃ T, T = (if 26 ≤ i then Lib.decDigits d else []) := ⟨_, rfl⟩
  have hTd : T = if d = 0 then [] else Lib.decDigits d := by
    rw [hT]
    by_cases c : 26 ≤ i
    · rw [if_pos c, if_neg (by omega)]
    · rw [if_neg c, if_pos (by omega)]
  have hTl : T.length ≤ 1000001 := by
    rw [hTd]; split
    · simp
    · have := digits_len d; omega
  have hs : nameS n = nm m ++ T := by rw [nameS, ← hi, ← hm, ← hd, hT]
  rw [hs] at hq
  have hnl : (nm m).length = 1 := rfl
  obtain ⟨I, hI⟩ : ∃ I : Nat → St → Prop, ∀ n s, I n s ↔ (∃ t : Nam, n < 1000000 ∧ (if n = 0 then [] else Lib.decDigits n) ++ t = T ∧ s.r 3 = .str (nm m) ∧ s.r 4 = .int .i64 (n : Nat) ∧ s.r 5 = .str t ∧ s.h = h) := ⟨_, fun _ _ => Iff.rfl⟩
  simp [ac35]
  have w0 : IntKind.wrap .i64 0 = 0 := by decide
  refine condA_dec (fun c => ?_) fun c => ?_
  · have hi0 : i = 0 := by omega
    have hm0 : m = 0 := by omega
    have hT0 : T = [] := by rw [hT, if_neg (by omega)]
    subst hm0
    rw [hT0, List.append_nil] at hq
    have w97 : IntKind.wrap .i64 97 = 97 := by decide
    have u97 : IntKind.wrap .u8 97 = 97 := by decide
    simp at hcv
    simp [w0, w97, u97, hcv]
    refine wpA_loop (CallA.hle ap) ?_
    simp [forget, noLoc, binV, hnl]
    exact hq
  · have hni : n = (i : Int) := by omega
    subst hni
    simp [e4, e6, e3, e5, a2 m hm26, hcv]
    refine loop_ind (CallA.hle ap) I ?_ (n := d) ((hI _ _).2 ⟨[], by omega, by simp [hTd], by simp, by simp, by simp, rfl⟩)
    rintro v ⟨r, lo, h'⟩ hst
    obtain ⟨t, hv, hdt, r3, r4, r5, rfl⟩ := (hI _ _).1 hst
    simp only at r3 r4 r5
    have htl : t.length ≤ 1000001 := by rw [← hdt] at hTl; simp at hTl; omega
    have h0 : (48 : Int) + (v : Int).tmod 10 = 48 + ((v % 10 : Nat) : Int) := by
      have e1 : (v : Int).tmod 10 = ((v % 10 : Nat) : Int) := by rw [Int.tmod_eq_emod_of_nonneg (by omega)]; omega
      rw [e1]
    have h1 : IntKind.wrap .i64 (48 + ((v % 10 : Nat) : Int)) = 48 + ((v % 10 : Nat) : Int) := wrap64 (by omega) (by omega)
    have h2 := dgt_u8 v
    rw [h0] at h2
    have h3 := dgt_text v
    have h4 : (v : Int).tdiv 10 = ((v / 10 : Nat) : Int) := by rw [Int.tdiv_eq_ediv_of_nonneg (by omega)]; omega
    have h5 : IntKind.wrap .i64 ((v / 10 : Nat) : Int) = ((v / 10 : Nat) : Int) := wrap64 (by omega) (by omega)
    have h6 : 1 + t.length ≤ 4611686018427387904 := by omega
    obtain ⟨q, hq'⟩ : ∃ q, q = v / 10 := ⟨_, rfl⟩
    obtain ⟨m', hm'⟩ : ∃ m, m = v % 10 := ⟨_, rfl⟩
    rw [← hq'] at h4 h5
    rw [← hm'] at h0 h1 h2 h3
    simp [forget, noLoc, r4]
    refine condA_dec (fun g => ?_) fun g => ?_
    · have hv0 : v ≠ 0 := by omega
      rw [if_neg hv0] at hdt
      simp [r4, r5, h0, h1, h2, h3, h4, h5, binV, h6]
      refine ⟨q, by omega, (hI _ _).2 ⟨dgt v :: t, by omega, ?_, by simp [r3], by simp, by simp, rfl⟩⟩
      by_cases hv10 : v < 10
      · rw [if_pos (by omega)]
        rw [Lib.decDigits_one hv10] at hdt
        rw [← hdt, dgt, Nat.mod_eq_of_lt hv10]; rfl
      · rw [if_neg (by omega)]
        rw [digits_step (by omega)] at hdt
        rw [hq', ← hdt, dgt]; simp
    · have hv0 : v = 0 := by omega
      rw [if_pos hv0, List.nil_append] at hdt
      subst hdt
      have h7 : 1 + t.length ≤ 4611686018427387904 := by omega
      simp [r3, r5, binV, hnl, h7]
      exact hq

end
end Go.Ot

namespace Go.Ot
open Go.Am Go.Proofs
set_option maxRecDepth 100000
set_option maxHeartbeats 1000000

section
variable {bs : List Nat} {h : List Ob} {Q : V → List Ob → Prop}

theorem refFresh (L : List Nam) (k0 : Nat) (hk0 : k0 < 100000) (hl : L.length ≤ 1000) (ps : En) (hps : ps.length ≤ 1000) (hf : ∀ p ∈ ps, fine p.2 = true) (t : Ty) (ht : fine t = true)
    (hq : Q (.tup [.agg ([.sl .frozen ((frs k0 L.length).map .str), .sl .frozen (paVs (mapE (look (zipE L (frs k0 L.length))) ps))] ++ (tyV (apT (look (zipE L (frs k0 L.length))) t)).cells), .int .i64 ((k0 + L.length : Nat) : Int)]) h) :
    CallA ap 29 0 bs [.agg ([.sl .frozen (L.map .str), .sl .frozen (paVs ps)] ++ (tyV t).cells), .int .i64 k0] h Q := by
  refine CallA.code (af := ac29) rfl (Nat.le_of_ble_eq_true rfl) ?_
  obtain ⟨k, nn, l⟩ := t
  have e3 : V.agg [.int .i64 k, .str nn, .sl .frozen (tyVs l)] = tyV (.mk k nn l) := by simp [tyV]
  obtain ⟨R, hR⟩ : ∃ R, R = frs k0 L.length := ⟨_, rfl⟩
  have hRl : R.length = L.length := by rw [hR]; exact frs_len _ _
  rw [← hR] at hq
  simp [ac29, tyV]
  obtain ⟨I, hI⟩ : ∃ I : Nat → St → Prop, ∀ n s, I n s ↔ (∃ C D : List Nam, L = C ++ D ∧ n = D.length ∧ s.r 1 = .int .i64 ((k0 + C.length : Nat) : Int) ∧ s.r 8 = .int .i64 C.length ∧ s.r 2 = .loc 2 0 ∧ s.r 4 = .loc 4 0 ∧ s.l 2 = some [.sl .frozen (L.map .str), .sl .frozen (paVs ps), .int .i64 k, .str nn, .sl .frozen (tyVs l)] ∧ s.l 4 = some [.sl .clip [], .sl .clip [], .int .i64 0, .str [], .sl .clip []] ∧
    (C = [] ∧ s.r 7 = .sl .clip [] ∧ s.r 6 = .sl .clip [] ∧ s.h = h ∨ C ≠ [] ∧ s.r 7 = .sl (.fam h.length) ((R.take C.length).map .str) ∧ s.r 6 = .sl (.fam (h.length + 1)) (paVs (zipE C (R.take C.length))) ∧ s.h = h ++ [.fam C.length 1, .fam C.length 4])) := ⟨_, fun _ _ => Iff.rfl⟩
  refine loop_ind (CallA.hle ap) I ?_ (n := L.length) ((hI _ _).2 ⟨[], L, by simp⟩)
  rintro n ⟨r, lo, h'⟩ hst
  obtain ⟨C, D, e, hn, r1, r8, r2, r4, l2, l4, hor⟩ := (hI _ _).1 hst
  simp only at r1 r8 r2 r4 l2 l4 hor
  have hCD : C.length + D.length = L.length := by rw [e]; simp
  simp [forget, noLoc, locOf, r8, r2, l2]
  refine condA_dec (fun d => ?_) fun d => ?_
  · obtain ⟨x, D', rfl⟩ : ∃ x D', D = x :: D' := by
      cases D with
      | nil => simp at hCD; omega
      | cons x D' => exact ⟨x, D', rfl⟩
    have hpl : C.length + 1 + D'.length = L.length := by simp at hCD; omega
    have g1 : (L.map V.str)[C.length]? = some (.str x) := by rw [e]; simp
    simp only [List.getElem?_map] at g1
    have hw : IntKind.wrap .i64 ((C.length : Int) + 1) = (C.length : Int) + 1 := wrap64 (by omega) (by omega)
    have hw2 : IntKind.wrap .i64 ((k0 : Int) + (C.length : Int) + 1) = (k0 : Int) + ((C.length : Int) + 1) := by rw [wrap64 (by omega) (by omega)]; omega
    obtain ⟨w, hwv⟩ : ∃ w : Nam, w = 63 :: Lib.itoa ((k0 + C.length : Nat) : Int) := ⟨_, rfl⟩
    have hRi : R.take (C.length + 1) = R.take C.length ++ [w] := by
      have hi : C.length < R.length := by omega
      rw [List.take_add_one, List.getElem?_eq_getElem hi]
      have : R[C.length] = w := by simp only [hR, frs_get]; rw [hwv]; rfl
      rw [this]; rfl
    have hz := zipE_snoc (L := C) (R := R.take C.length) (by simp; omega) x w
    rw [← hRi] at hz
    have hv : V.agg [.str x, .int .i64 1, .str w, .sl .frozen []] = paV (x, var w) := by simp [paV, var, tyV, tyVs]
    simp [r1]
    have hcast : (k0 : Int) + (C.length : Int) = ((k0 + C.length : Nat) : Int) := by omega
    rw [hcast]
    refine number63 (k0 + C.length) (by omega) ?_
    have hlen : (Lib.itoa ((k0 + C.length : Nat) : Int)).length ≤ 1000001 := by
      rw [Lib.itoa_nonneg]; have := digits_len (k0 + C.length); omega
    have hb : binV .add (.str [63]) (.str (Lib.itoa ((k0 + C.length : Nat) : Int))) = some (.str w) := by
      have h2 : [(63 : UInt8)].length + (Lib.itoa ((k0 + C.length : Nat) : Int)).length ≤ 4611686018427387904 := by simp only [List.length_cons, List.length_nil]; omega
      rw [hwv]; exact b_cat _ _ h2
    rcases hor with ⟨h0, r7, r6, rfl⟩ | ⟨hne, r7, r6, rfl⟩
    · subst h0
      simp at hb hw2 hRi hz
      have g0 : L[0]? = some x := by rw [e]; simp
      have g00 : L.head? = some x := by rw [e]; simp
      have hL0 : 0 < L.length := by omega
      have g000 : L[0] = x := by rw [List.getElem?_eq_getElem hL0] at g0; exact Option.some.inj g0
      simp [r1, r8, r2, l2, r7, r6, hb, hw2, lim, g0]
      refine var31 w ?_
      have hp1 : [paV (x, var w)] = paVs (zipE [x] (R.take 1)) := by rw [hRi]; simp [zipE, paVs]
      simp [r8, splice, lim, hv, pa_cells, pa_loc, w1]
      refine ⟨D'.length, by simp at hn; omega, (hI _ _).2 ⟨[x], D', by simpa using e, rfl, by simp, by simp, by simp [r2], by simp [r4], by simp [l2], by simp [l4], .inr ⟨by simp, by simp [hRi], by simp [hp1], by simp⟩⟩⟩
    · have hl1 : C.length + 1 ≤ lim := by simp only [lim]; omega
      have hmn : min C.length R.length = C.length := by omega
      have hzl : (paVs (zipE C (R.take C.length))).length = C.length := by rw [pas_length, zipE_len (by simp; omega)]
      have hp1 : paVs (zipE C (R.take C.length)) ++ [paV (x, var w)] = paVs (zipE (C ++ [x]) (R.take (C.length + 1))) := by rw [hz]; simp [paVs]
      simp at hb
      simp [r1, r8, r2, l2, r7, r6, hb, hw2, hl1, hmn, g1]
      refine ⟨fun v hv' => ?_, ?_⟩
      · rcases hv' with hv' | rfl
        · have := List.mem_of_mem_take hv'
          exact strs_mem this
        · rfl
      refine var31 w ?_
      simp [r8, splice, hl1, hv, pa_cells, pa_loc, hw, hzl, hp1]
      refine ⟨fun v hv' => pas_mem hv', D'.length, by simp at hn; omega, (hI _ _).2 ⟨C ++ [x], D', by simpa using e, rfl, by simp, by simp, by simp [r2], by simp [r4], by simp [l2], by simp [l4], .inr ⟨by simp, by simp [hRi], by simp, by simp⟩⟩⟩
  · have : D = [] := List.length_eq_zero_iff.1 (by omega)
    subst this
    have e : L = C := by simpa using e
    subst e
    have hfull : R.take L.length = R := List.take_of_length_le (by omega)
    rw [hfull] at hor
    have hzl : (zipE L R).length = L.length := zipE_len hRl.symm
    have hk : ((k0 : Int) + (L.length : Int)) = ((k0 + L.length : Nat) : Int) := by omega
    obtain ⟨T, hT⟩ : ∃ T, apT (look (zipE L R)) (.mk k nn l) = T := ⟨_, rfl⟩
    rw [hT] at hq
    obtain ⟨k', nn', l'⟩ := T
    rcases hor with ⟨h0, r7, r6, rfl⟩ | ⟨hne, r7, r6, rfl⟩
    · have hR0 : R = [] := List.length_eq_zero_iff.1 (by rw [hRl, h0]; rfl)
      have E0 : V.sl .frozen [] = V.sl .frozen (paVs (zipE L R)) := by rw [h0]; simp [zipE, paVs]
      simp [r2, l2, r7, r6, pas_demote]
      rw [E0]
      refine preds16 _ (by rw [hzl]; omega) ps (by omega) hf ?_
      simp [r2, l2, r6, demote_tys]
      rw [E0, e3]
      refine refOk ht _ _ _ _ (by rw [hzl]; omega) ?_
      rw [hT]
      simp only [tyV]
      simp [r1, r4, l4, splice, pas_demote, pas_under, demote_tys, under_tys]
      simpa [tyV, hR0] using hq
    · simp [r2, l2, r7, r6, pas_demote]
      refine preds16 _ (by rw [hzl]; omega) ps (by omega) hf ?_
      simp [r2, l2, r6, pas_demote, demote_tys]
      rw [e3]
      refine refOk ht _ _ _ _ (by rw [hzl]; omega) ?_
      rw [hT]
      simp only [tyV]
      simp [r1, r4, l4, splice, pas_demote, pas_under, demote_tys, under_tys, dem_strs, under_strs]
      simpa [tyV] using hq

end
end Go.Ot

namespace Go.Ot
open Go.Am Go.Proofs
set_option maxRecDepth 100000
set_option maxHeartbeats 1000000

section
variable {bs : List Nat} {h : List Ob} {Q : V → List Ob → Prop}

theorem schemeM (tg : Tag) (l : List Int) (p : Nat) (i : Int) (hi1 : 0 ≤ i) (hi2 : i < 700000) (hp : h[p]? = some (seqB tg l i))
    (hq : ∀ (N : List Nam) (ps : En) (t : Ty) (j : Int), i ≤ j → j ≤ i + 130 → N.Nodup → (∀ x ∈ N, ∃ j, j < 4 ∧ x = nm j) → ps.length ≤ 3 → (∀ x ∈ ps, PrM 0 x) → Made 3 t → Q (.agg ([.sl .frozen (N.map .str), .sl .frozen (paVs ps)] ++ (tyV t).cells)) (h.set p (seqB tg l j))) :
    CallA ap 27 0 bs [.ptr p 0] h Q := by
  refine CallA.code (af := ac27) rfl (Nat.le_of_ble_eq_true rfl) ?_
  have hpl : p < h.length := (List.getElem?_eq_some_iff.1 hp).1
  have p16 : (2 : Int) ^ (3 + 1) = 16 := by decide
  simp [ac27]
  refine made10 tg l p 3 3 i _ _ _ (by omega) (by omega) (by omega) (by omega) (by omega) hp fun t j1 hj1 hj2 hm => ?_
  obtain ⟨k, nn, tl⟩ := t
  simp only [tyV]
  simp [splice]
  refine predsM tg l p 0 (by omega) 3 (by omega) j1 (by omega) (by omega) (by simp [hpl]) fun ps j2 hj3 hj4 hlen hps => ?_
  simp [splice, List.set_set]
  have four : ∀ q : Nat, q < 4 → [V.str [97], V.str [98], V.str [99], V.str [100]][q]? = some (.str (nm q)) := fun q hq => by
    match q, hq with
    | 0, _ => rfl
    | 1, _ => rfl
    | 2, _ => rfl
    | 3, _ => rfl
  obtain ⟨I, hI⟩ : ∃ I : Nat → St → Prop, ∀ n s, I n s ↔ (∃ (q : Nat) (N : List Nam) (j : Int), q + n = 4 ∧ j2 ≤ j ∧ j ≤ j2 + q ∧ N.Nodup ∧ (∀ x ∈ N, ∃ j, j < q ∧ x = nm j) ∧ N.length ≤ q ∧ s.r 0 = .ptr p 0 ∧ s.r 5 = .sl .clip [V.str [97], V.str [98], V.str [99], V.str [100]] ∧ s.r 6 = .int .i64 q ∧ s.r 2 = .loc 2 0 ∧ s.r 3 = .loc 3 0 ∧ s.l 2 = some [.sl .clip [], .sl .clip [], .int .i64 0, .str [], .sl .clip []] ∧
    (N = [] ∧ s.l 3 = some [.sl .clip [], .sl .frozen (paVs ps), .int .i64 k, .str nn, .sl .frozen (tyVs tl)] ∧ s.h = h.set p (seqB tg l j) ∨ N ≠ [] ∧ s.l 3 = some [.sl (.fam h.length) (N.map .str), .sl .frozen (paVs ps), .int .i64 k, .str nn, .sl .frozen (tyVs tl)] ∧ s.h = h.set p (seqB tg l j) ++ [.fam N.length 1])) := ⟨_, fun _ _ => Iff.rfl⟩
  refine loop_ind (CallA.hle ap) I ?_ (n := 4) ((hI _ _).2 ⟨0, [], j2, by simp⟩)
  rintro n ⟨r, lo, h'⟩ hst
  obtain ⟨q, N, j, hqn, hj5, hj6, hNn, hNm, hNl, r0, r5, r6, r2, r3, l2, hor⟩ := (hI _ _).1 hst
  simp only at r0 r5 r6 r2 r3 l2 hor
  simp [forget, noLoc, locOf, r6]
  refine condA_dec (fun d => ?_) fun d => ?_
  · have hq4 : q < 4 := by omega
    have hw : IntKind.wrap .i64 ((q : Int) + 1) = (q : Int) + 1 := wrap64 (by omega) (by omega)
    have hf := four q hq4
    have hnew : nm q ∉ N := fun hm => by
      obtain ⟨j', h1, h2⟩ := hNm _ hm
      have := nm_inj q (by omega) j' (by omega) h2
      omega
    have hN2 : (N ++ [nm q]).Nodup := List.nodup_append.2 ⟨hNn, by simp, fun a ha b hb => by simp at hb; subst hb; exact fun e => hnew (e ▸ ha)⟩
    have hN3 : ∀ x ∈ N ++ [nm q], ∃ j, j < q + 1 ∧ x = nm j := fun x hx => by
      rcases List.mem_append.1 hx with hx | hx
      · obtain ⟨j', h1, h2⟩ := hNm _ hx; exact ⟨j', by omega, h2⟩
      · rw [List.mem_singleton] at hx; exact ⟨q, by omega, hx⟩
    have hN4 : ∀ x ∈ N, ∃ j, j < q + 1 ∧ x = nm j := fun x hx => by
      obtain ⟨j', h1, h2⟩ := hNm _ hx; exact ⟨j', by omega, h2⟩
    simp [r0]
    rcases hor with ⟨h0, l3, rfl⟩ | ⟨hne, l3, rfl⟩
    · subst h0
      refine next30 tg l j 3 p (by simp [hpl]) (by omega) (by omega) (by omega) (by omega) fun v hv1 hv2 => ?_
      by_cases hv : 0 < v
      · simp [hv, r5, r6, r3, l3, hf, splice, lim, hw]
        refine ⟨n - 1, by omega, (hI _ _).2 ⟨q + 1, [nm q], j + 1, by omega, by omega, by omega, by simp, by simpa using hN3, by simp, by simp [r0], by simp [r5], by simp, by simp [r2], by simp [r3], by simp [l2], .inr ⟨by simp, by simp, by simp⟩⟩⟩
      · simp [hv, r6, hw]
        refine ⟨n - 1, by omega, (hI _ _).2 ⟨q + 1, [], j + 1, by omega, by omega, by omega, by simp, by simp, by simp, by simp [r0], by simp [r5], by simp, by simp [r2], by simp [r3], by simp [l2], .inl ⟨rfl, by simp [l3], by simp⟩⟩⟩
    · have hl1 : N.length + 1 ≤ lim := by simp only [lim]; omega
      have hst : ∀ ob o2 g, ((h.set p ob) ++ g).set p o2 = h.set p o2 ++ g := fun ob o2 g => by
        rw [List.set_append_left _ _ (by simpa using hpl), List.set_set]
      refine next30 tg l j 3 p (by rw [List.getElem?_append_left (by simpa using hpl)]; simp [hpl]) (by omega) (by omega) (by omega) (by omega) fun v hv1 hv2 => ?_
      rw [hst]
      by_cases hv : 0 < v
      · simp [hv, r5, r6, r3, l3, hf, splice, hl1, hw]
        refine ⟨fun v hv' => by rcases hv' with ⟨y, _, rfl⟩ | rfl <;> rfl, ?_⟩
        refine ⟨n - 1, by omega, (hI _ _).2 ⟨q + 1, N ++ [nm q], j + 1, by omega, by omega, by omega, hN2, hN3, by simp; omega, by simp [r0], by simp [r5], by simp, by simp [r2], by simp [r3], by simp [l2], .inr ⟨by simp, by simp, by simp⟩⟩⟩
      · simp [hv, r6, hw]
        refine ⟨n - 1, by omega, (hI _ _).2 ⟨q + 1, N, j + 1, by omega, by omega, by omega, hNn, hN4, by omega, by simp [r0], by simp [r5], by simp, by simp [r2], by simp [r3], by simp [l2], .inr ⟨hne, by simp [l3], by simp⟩⟩⟩
  · have hq4 : q = 4 := by omega
    have := hq N ps (.mk k nn tl) j (by omega) (by omega) hNn (by rw [hq4] at hNm; exact hNm) hlen hps hm
    simp only [tyV, cells_agg, List.cons_append, List.nil_append] at this
    rcases hor with ⟨h0, l3, rfl⟩ | ⟨hne, l3, rfl⟩
    · rw [h0] at this
      simp [r2, r3, l2, l3, splice, pas_demote, pas_under, demote_tys, under_tys]
      rw [List.take_of_length_le (by simp)]
      exact this
    · simp [r2, r3, l2, l3, splice, pas_demote, pas_under, demote_tys, under_tys, dem_strs, under_strs]
      exact this

end
end Go.Ot
