/- The law LexerNumbers on the abstract machine. -/
import Derived.Test.YtjfflpknmhflfaaDoorUtLg
import Derived.Test.YtjfflpknmhflfaaDoorUtLk
import Derived.Test.YtjfflpknmhflfaaDoorAmN
namespace Go.Ut
open Go.Am Go.Proofs
set_option maxRecDepth 100000

theorem lexNum {B : Bs} (hne : B ≠ []) (hd : ∀ x ∈ B, isDg x = true) : lexF ((B ++ [120]).length + 1) 0 (B ++ [120]) = if 15 < B.length then ([], some 0) else ([⟨3, 0, B, (digN 0 B : Nat)⟩, ⟨1, B.length, [120], 0⟩], none) := by
  have hw : whl isDg (B ++ 120 :: []) = B.length := whl_app (by decide) B [] hd
  have hnum : numT (B ++ [120]) = if 15 < B.length then none else some (3, B, ((digN 0 B : Nat) : Int)) := by
    simp only [numT, hw, List.take_left]
  match B, hne, hd, hw, hnum with
  | c :: r, _, hd, hw, hnum =>
    have hc := hd c (by simp)
    simp only [isDg, Bool.and_eq_true, decide_eq_true_eq] at hc
    have hb : blankN (c :: r ++ [120]) = 0 := by
      have e1 : (c.toNat == 32) = false := by simp; omega
      have e2 : (c.toNat == 9) = false := by simp; omega
      have e3 : (c.toNat == 10) = false := by simp; omega
      have e4 : (c.toNat == 13) = false := by simp; omega
      have e5 : (c.toNat == 45) = false := by simp; omega
      simp [blankN, e1, e2, e3, e4, e5]
    have hwd : wordT (c :: r ++ [120]) = numT (c :: r ++ [120]) := by
      have e1 : isSm c = false := by simp [isSm]; omega
      have e2 : isGr c = false := by simp [isGr]; omega
      have e3 : isDg c = true := hd c (by simp)
      simp only [List.cons_append, wordT, e1, e2, e3, Bool.or_self, Bool.false_eq_true, if_false, if_true]
    have hlen : (c :: r ++ [120]).length + 1 = (r.length + 2) + 1 := by simp
    rw [hlen]
    by_cases h15 : 15 < (c :: r).length
    · rw [if_pos h15] at hnum ⊢
      simp only [lexF]
      rw [if_neg (by simp), if_neg (by rw [hb]; omega), hwd, hnum]
    · rw [if_neg h15] at hnum ⊢
      rw [lex_word hb (by rw [hwd, hnum])]
      have hdr : (c :: r ++ [120]).drop (c :: r).length = [120] := List.drop_left
      rw [hdr]
      have hx : lexF (r.length + 2) (0 + (c :: r).length) [120] = ([⟨1, (c :: r).length, [120], 0⟩], none) := by
        rw [lex_word (k := 1) (s := [120]) (n := 0) (by decide) (by kernel_rfl)]
        simp [lex_nil]
      rw [hx]

theorem sl_hi0 {r : Nat → V} {x : AO} {k : IntKind} (q ver len : Nat) (hx : ev r x = .int k 0) : sliceV 1 r (.vec q ver 0 len 1) none (some x) none = some (.vec q ver 0 0 1) := by
  simp [sliceV, bnd, hx]
theorem sl_hi {r : Nat → V} {x : AO} {k : IntKind} (q ver len a : Nat) (hx : ev r x = .int k (a : Int)) (ha : a ≤ len) : sliceV 1 r (.vec q ver 0 len 1) none (some x) none = some (.vec q ver 0 a 1) := by
  simp [sliceV, bnd, hx, ha]
theorem sl_lo {r : Nat → V} {x : AO} {k : IntKind} (q ver len a : Nat) (hx : ev r x = .int k (a : Int)) (ha : a ≤ len) : sliceV 1 r (.vec q ver 0 len 1) (some x) none none = some (if a = 0 then .vec q ver 0 len 1 else if a < len then .vec q ver a (len - a) 1 else .sl .frozen []) := by
  simp [sliceV, bnd, hx, ha]

/-- What is behind the first so many, read. -/
theorem rd_lo {s : St} {q ver : Nat} {Z D : Bs} (hq : s.h[q]? = some (.vec ver 1 (bV (Z ++ D)))) :
    rdV s (if Z.length = 0 then .vec q ver 0 (Z.length + D.length) 1 else if Z.length < Z.length + D.length then .vec q ver Z.length (Z.length + D.length - Z.length) 1 else .sl .frozen []) = .sl .frozen (bV D) := by
  by_cases hz : Z.length = 0
  · have : Z = [] := List.length_eq_zero_iff.1 hz
    subst this
    simp [rdW, hq, bV_len]
    rw [List.take_of_length_le (by simp [bV_len])]
  · rw [if_neg hz]
    by_cases hd : D = []
    · subst hd
      simp [bV]
    · have hl : 0 < D.length := by cases D with | nil => exact absurd rfl hd | cons _ _ => simp
      rw [if_pos (by omega)]
      have e1 : (bV (Z ++ D)).drop Z.length = bV D := by rw [bV_drop, List.drop_left]
      have e2 : Z.length + D.length - Z.length = D.length := by omega
      simp only [rd_vec, hq, rdW, e2, e1, true_and]
      rw [if_pos (by simp [bV_len])]
      rw [List.take_of_length_le (by simp [bV_len])]

theorem wrapz {n : Int} (h1 : -9223372036854775808 ≤ n) (h2 : n < 9223372036854775808) : IntKind.wrap .i64 n = n := wrapn h1 h2

def numZ (n k : Int) : Int := if n.tmod k < 0 then n.tmod k + k else n.tmod k

theorem numZ_bound {n k : Int} (hk : 0 < k) : 0 ≤ numZ n k ∧ numZ n k < k := by
  have h1 : n.tmod k < k := Int.tmod_lt_of_pos n hk
  have h2 : -k < n.tmod k := Int.lt_tmod_of_pos n hk
  unfold numZ
  split <;> omega

theorem numberZ {bs : List Nat} {h : List Ob} {Q : V → List Ob → Prop} (n k : Int) (hk : 0 < k) (hk2 : k < 1000) (hq : Q (.int .i64 (numZ n k)) h) : CallA ap 11 0 bs [.int .i64 n, .int .i64 k] h Q := by
  refine CallA.code (af := ac11) rfl (Nat.le_of_ble_eq_true rfl) ?_
  have h0 : k ≠ 0 := by omega
  have h1 : n.tmod k < k := Int.tmod_lt_of_pos n hk
  have h2 : -k < n.tmod k := Int.lt_tmod_of_pos n hk
  simp [ac11, h0]
  refine condA_dec (fun h3 => ?_) fun h3 => ?_
  · simp
    rw [wrapz (by omega) (by omega)]
    simpa [numZ, h3] using hq
  · simp
    simpa [numZ, h3] using hq

/-- A row of bytes that grows: nothing yet, or cells that may be turned. -/
def RowB (B : Bs) (v : V) (h : List Ob) : Prop := (B = [] ∧ v = .sl .clip []) ∨ ∃ q ver, v = .vec q ver 0 B.length 1 ∧ h[q]? = some (.vec ver 1 (bV B))

theorem zs_len (m : Nat) : (zs m).length = m := by simp [zs]
theorem zs_succ (m : Nat) : zs (m + 1) = zs m ++ [48] := by simp [zs, List.replicate_succ']
theorem bV_one (c : UInt8) : bV [c] = [.int .u8 c.toNat] := rfl

theorem rowB_len {B : Bs} {v : V} {h : List Ob} (hr : RowB B v h) (s : St) : lenV 1 s v = some (.int .i64 B.length) := by
  rcases hr with ⟨rfl, rfl⟩ | ⟨q, ver, rfl, _⟩
  · rfl
  · rfl

abbrev QK : AX → St → Prop := retK [.t 4] false true 0 fun v _ => v = .bool true
/-- The first loop and what is behind it; the second; what is behind that. -/
def nbS : AC := match ac6.body with
  | .seq _ (.seq _ (.seq _ (.seq _ (.seq _ (.seq _ (.seq _ (.seq (.seq _ (.block _ l)) t))))))) => .seq l t
  | c => c
def nb1 : AC := match nbS with | .seq l _ => l | c => c
def nbT : AC := match nbS with | .seq _ t => t | c => c
def nb2 : AC := match nbT with | .seq _ (.seq (.seq _ (.block _ l)) _) => l | c => c
def nb3 : AC := match nbT with | .seq _ (.seq _ t) => t | c => c

theorem numTail (n m : Nat) (hn : n < 1000000000) (hm : m < 20) {s : St} {D : Bs} (hD : D ≠ []) (hl : D.length ≤ 9) (hd : ∀ x ∈ D, isDg x = true) (he : digN 0 D = n) (h0 : s.r 0 = .int .i64 n) (h5 : s.r 5 = .bool true) (h6 : RowB (zs m ++ D) (s.r 6) s.h) :
    wpA (CallA ap) [0] nb3 QK s := by
  have hne : zs m ++ D ≠ [] := by simp [hD]
  rcases h6 with ⟨e, _⟩ | ⟨q, ver, r6, hq⟩
  · exact absurd e hne
  have hlen : (zs m ++ D).length = m + D.length := by simp [zs_len]
  have hdg : ∀ x ∈ zs m ++ D, isDg x = true := fun x hx => by
    rcases List.mem_append.1 hx with hx | hx
    · rw [List.eq_of_mem_replicate hx]; rfl
    · exact hd x hx
  have hnum : digN 0 (zs m ++ D) = n := by rw [digN_app, digN_zs, he]
  have hlex := lexNum hne hdg
  rw [hnum] at hlex
  generalize hB : zs m ++ D = B at *
  obtain ⟨r, lo, h'⟩ := s
  simp only at h0 h5 r6 hq
  have hrd : ∀ r' l', rdV ⟨r', l', h'⟩ (.vec q ver 0 B.length 1) = .sl .frozen (bV B) := fun r' l' => by
    simp [rdW, hq, bV_len]
    rw [List.take_of_length_le (by simp [bV_len])]
  have hcons : ∃ d B', bV B = d :: B' := by
    cases B with
    | nil => exact absurd rfl hne
    | cons d B' => exact ⟨_, _, rfl⟩
  obtain ⟨d, B', eB⟩ := hcons
  have hBl : B'.length + 1 = B.length := by have := congrArg List.length eB; simpa [bV_len] using this.symm
  have hlm : B.length ≤ lim := by
    have : 1000 ≤ lim := by decide
    omega
  have hlm2 : B.length + 1 ≤ lim := by
    have : 1000 ≤ lim := by decide
    omega
  have e120 : d :: (B' ++ [V.int .u8 120]) = bV (B ++ [120]) := by
    have : bV (B ++ [120]) = bV B ++ [.int .u8 120] := by simp [bV]
    rw [this, eB]; rfl
  rw [eB] at hrd
  simp only [nb3, nbT, nbS, ac6]
  simp [h0, h5, r6, k_appE, hrd, hBl, hlm, hlm2]
  have hcell : ∀ a ∈ bV (B ++ [120]), a.cells.length = 1 := fun a ha => by
    obtain ⟨x, _, rfl⟩ := List.mem_map.1 ha
    rfl
  rw [← e120] at hcell
  refine ⟨⟨hcell _ (by simp), fun a ha => hcell _ (by simp [ha])⟩, ⟨hcell _ (by simp), fun a ha => hcell _ (by rcases ha with ha | ha <;> simp [ha])⟩, ?_⟩
  have edem : d.demote :: demoteL (B' ++ [V.int .u8 120]) = bV (B ++ [120]) := by
    rw [← bV_dem (B ++ [120]), ← e120]; simp
  rw [edem]
  refine split10 (b := B ++ [120]) (by simp; omega) (by simp) (fun ts tl e => ?_) fun ts at_ tl q2 e hq2 ho => ?_
  · rw [hlex] at e
    split at e
    · simp at e
    · rename_i h15
      simp only [Prod.mk.injEq, and_true] at e
      subst e
      simp [h0, h5, r6, h15, tkV, tokV, QK]
      refine condA_dec (fun hx => absurd hx (by omega)) fun _ => ?_
      simp [h0, h5, r6, splice]
  · rw [hlex] at e
    split at e
    · rename_i h15
      simp only [Prod.mk.injEq, Option.some.injEq] at e
      obtain ⟨rfl, rfl⟩ := e
      simp [h0, h5, r6, h15]
      refine condA_dec (fun _ => ?_) fun hx => absurd (show (15 : Int) < B.length by omega) hx
      simp [h0, h5, r6]
      refine placed 0 ?_
      simp [errV, faultV]
      have ho' : (h' ++ Ob.fam (B.length + 1) 1 :: tl)[q2]? = some (errB 0) := by simpa using ho
      refine sameL q2 0 0 ho' ?_
      simp [QK]
    · simp at e

theorem sl_c0 {r : Nat → V} {x : AO} (hx : ev r x = .int .i64 0) : sliceV 1 r (.sl .clip []) (some x) none none = some (.sl .clip []) := by
  simp [sliceV, bnd, hx]
theorem sl_c1 {r : Nat → V} {x : AO} (hx : ev r x = .int .i64 0) : sliceV 1 r (.sl .clip []) none (some x) none = some (.sl .clip []) := by
  simp [sliceV, bnd, hx]
theorem dgB {k c : Nat} (hc : c = 48 + k % 10) : (UInt8.ofNat c).toNat = c := by
  have h1 : k % 10 < 10 := Nat.mod_lt _ (by omega)
  simp; omega
theorem digN_step {n k c : Nat} {D : Bs} (hc : c = 48 + k % 10) (hn : n = k * 10 ^ D.length + digN 0 D) : n = k / 10 * 10 ^ (D.length + 1) + digN 0 (UInt8.ofNat c :: D) := by
  have e1 : digN 0 (UInt8.ofNat c :: D) = k % 10 * 10 ^ D.length + digN 0 D := by
    rw [digN_cons, digN_acc, dgB hc, hc]
    congr 2; omega
  have e2 : k / 10 * 10 ^ (D.length + 1) + k % 10 * 10 ^ D.length = k * 10 ^ D.length := by
    rw [Nat.pow_succ, Nat.mul_comm (10 ^ D.length) 10, ← Nat.mul_assoc, ← Nat.add_mul]
    congr 1; omega
  rw [e1, ← Nat.add_assoc, e2, hn]

theorem numLoop2 (n m : Nat) (hn : n < 1000000000) (hm : m < 20) {s : St} (h0 : s.r 0 = .int .i64 n) (h5 : s.r 5 = .bool true) (h8 : s.r 8 = .int .i64 m) (h9 : s.r 9 = .int .i64 n) (h6 : RowB (zs m) (s.r 6) s.h) :
    wpA (CallA ap) [0] nb2 (blockA 2 (thenA (wpA (CallA ap) [0] nb3 QK) QK)) s := by
  let I : Nat → St → Prop := fun k s => ∃ D : Bs, n = k * 10 ^ D.length + digN 0 D ∧ (∀ x ∈ D, isDg x = true) ∧ (D = [] ∨ 1 ≤ k) ∧ s.r 0 = .int .i64 n ∧ s.r 5 = .bool true ∧ s.r 8 = .int .i64 m ∧ s.r 9 = .int .i64 k ∧ RowB (zs m ++ D) (s.r 6) s.h
  have hI : ∀ k s, I k s ↔ _ := fun k s => Iff.rfl
  refine loop_ind (CallA.hle ap) I ?_ (n := n) ((hI _ _).2 ⟨[], by simp [digN_nil], by simp, by simp, h0, h5, h8, h9, by simpa using h6⟩)
  rintro k ⟨r, lo, h'⟩ hst
  obtain ⟨D, hnk, hd, hk, r0, r5, r8, r9, r6⟩ := (hI _ _).1 hst
  simp only at r0 r5 r8 r9 r6
  have hkn : k ≤ n := by
    have : k ≤ k * 10 ^ D.length := Nat.le_mul_of_pos_right _ (Nat.pow_pos (by omega))
    omega
  have hDl : D.length ≤ 8 := by
    rcases hk with rfl | hk
    · simp
    · exact pow_bound (n := n) (v := k) (by omega) hn hk
  obtain ⟨c, hc⟩ : ∃ c : Nat, c = 48 + k % 10 := ⟨_, rfl⟩
  have hcb := dgB hc
  have hcd : isDg (UInt8.ofNat c) = true := by
    simp only [isDg, hcb, Bool.and_eq_true, decide_eq_true_eq]; omega
  have hd' : ∀ x ∈ UInt8.ofNat c :: D, isDg x = true := fun x hx => by
    rcases List.mem_cons.1 hx with rfl | hx
    · exact hcd
    · exact hd x hx
  have ew : IntKind.wrap .i64 (48 + (k : Int) % 10) = (c : Int) := by rw [wrapn (by omega) (by omega)]; omega
  have ew8 : IntKind.wrap .u8 (c : Int) = (c : Int) := by
    show (c : Int) % 256 = c
    omega
  have ew2 : IntKind.wrap .i64 ((k : Int) / 10) = ((k / 10 : Nat) : Int) := by rw [wrapn (by omega) (by omega)]; omega
  have ewt : IntKind.wrap .i64 (48 + (k : Int).tmod 10) = (c : Int) := by rw [Int.tmod_eq_emod_of_nonneg (by omega)]; exact ew
  have ewd : IntKind.wrap .i64 ((k : Int).tdiv 10) = ((k / 10 : Nat) : Int) := by rw [Int.tdiv_eq_ediv_of_nonneg (by omega)]; exact ew2
  have hstep := digN_step hc hnk
  have hex : k < 10 → digN 0 (UInt8.ofNat c :: D) = n := fun h => by
    have : k / 10 = 0 := by omega
    rw [this] at hstep; omega
  have hl1 : 1 ≤ lim := by decide
  rcases r6 with ⟨e, r6⟩ | ⟨q, ver, r6, hq⟩
  · simp at e
    obtain ⟨e, rfl⟩ := e
    have hm0 : m = 0 := by simpa [zs] using e
    subst hm0
    have hrow : ∀ h2 : List Ob, h2[h'.length]? = some (.vec 0 1 [.int .u8 c]) → RowB (zs 0 ++ [UInt8.ofNat c]) (.vec h'.length 0 0 1 1) h2 := fun h2 e => .inr ⟨_, _, rfl, by rw [e]; simp [zs, bV, hcb]⟩
    simp [forget, noLoc, locOf, r0, r5, r8, r9, r6, ew, ewt, ew8, sl_c0, sl_c1, k_appE, hl1]
    refine condA_dec (fun hx => ?_) fun hx => ?_
    · simp
      refine numTail n 0 hn hm (D := [UInt8.ofNat c]) (by simp) (by simp) hd' (hex (by omega)) ?_ ?_ ?_
      · simp [r0]
      · simp [r5]
      · simp
        exact hrow _ (by simp [ew, ewt, ew8])
    · simp [r9, ew2, ewd]
      refine ⟨k / 10, by omega, (hI _ _).2 ⟨[UInt8.ofNat c], by simpa using hstep, hd', .inr (by omega), by simp [r0], by simp [r5], by simp [r8], by simp, ?_⟩⟩
      simp
      exact hrow _ (by simp [ew, ewt, ew8])
  · have hql : q < h'.length := (List.getElem?_eq_some_iff.1 hq).1
    have hlen : (zs m ++ D).length = m + D.length := by simp [zs_len]
    rw [hlen] at r6
    obtain ⟨w, es1, hr⟩ : ∃ w : V, (∀ (r' : Nat → V), ev r' (.t 44) = .int .i64 m → sliceV 1 r' (.vec q ver 0 (m + D.length) 1) (some (.t 44)) none none = some w) ∧ (∀ r' l', rdV ⟨r', l', h'⟩ w = .sl .frozen (bV D)) := by
      refine ⟨_, fun r' h => sl_lo q ver (m + D.length) m h (by omega), fun r' l' => ?_⟩
      have := @rd_lo ⟨r', l', h'⟩ q ver (zs m) D hq
      simpa [zs_len] using this
    have es2 : ∀ (r' : Nat → V), ev r' (.t 48) = .int .i64 m → sliceV 1 r' (.vec q ver 0 (m + D.length) 1) none (some (.t 48)) none = some (.vec q ver 0 m 1) := fun r' h => sl_hi q ver (m + D.length) m h (by omega)
    have hrow : ∀ (h2 : List Ob) (a : Nat) (cs : List V), a = m + (D.length + 1) → h2[q]? = some (.vec (ver + 1) 1 cs) → cs = (bV (zs m ++ D)).take m ++ .int .u8 c :: bV D → RowB (zs m ++ UInt8.ofNat c :: D) (.vec q (ver + 1) 0 a 1) h2 := fun h2 a cs ea e ec => .inr ⟨q, ver + 1, by simp [ea, zs_len], by
      rw [e, ec]
      have : (bV (zs m ++ D)).take m = bV (zs m) := by
        have e1 : bV (zs m ++ D) = bV (zs m) ++ bV D := by simp [bV]
        rw [e1, List.take_left' (by simp [bV_len, zs_len])]
      rw [this]
      simp [bV, hcb]⟩
    have hlm : m + (D.length + 1) ≤ lim := by
      have : 1000 ≤ lim := by decide
      omega
    have hlm2 : m + 1 ≤ lim := by omega
    have hlD : D.length + 1 ≤ lim := by omega
    have hflat : ∀ l : Bs, (bV l).flatMap V.cells = bV l := fun l => by induction l with
      | nil => rfl
      | cons x l ih => simpa [bV, V.cells] using ih
    by_cases hD : D = []
    · subst hD
      simp only [List.length_nil, Nat.add_zero] at r6 es1 es2 hr
      simp only [show bV [] = [] from rfl] at hr
      simp [forget, noLoc, locOf, r0, r5, r8, r9, r6, ew, ewt, ew8, es1, es2, k_appE, hr, hq, hlm2, bV_len, zs_len, okStore]
      refine condA_dec (fun hx => ?_) fun hx => ?_
      · simp
        refine numTail n m hn hm (D := [UInt8.ofNat c]) (by simp) (by simp) hd' (hex (by omega)) ?_ ?_ ?_
        · simp [r0]
        · simp [r5]
        · simp
          exact hrow _ _ _ (by simp) (by simp [hql]; rfl) (by simp [ew, ewt, ew8, bV])
      · simp [r9, ew2, ewd]
        refine ⟨k / 10, by omega, (hI _ _).2 ⟨[UInt8.ofNat c], by simpa using hstep, hd', .inr (by omega), by simp [r0], by simp [r5], by simp [r8], by simp, ?_⟩⟩
        simp
        exact hrow _ _ _ (by simp) (by simp [hql]; rfl) (by simp [ew, ewt, ew8, bV])
    · obtain ⟨d, D', rfl⟩ : ∃ d D', D = d :: D' := by
        cases D with
        | nil => exact absurd rfl hD
        | cons d D' => exact ⟨d, D', rfl⟩
      have eD : bV (d :: D') = .int .u8 d.toNat :: bV D' := rfl
      rw [eD] at hr
      simp only [List.length_cons] at r6 es1 es2 hrow hlm hlD hDl
      simp [forget, noLoc, locOf, r0, r5, r8, r9, r6, ew, ewt, ew8, es1, es2, k_appE, hr, hq, hlm, hlm2, hlD, bV_len, zs_len, okStore, hflat]
      have hbl : ∀ a : V, a ∈ bV D' → a.cells.length = 1 := fun a ha => by
        obtain ⟨x, _, rfl⟩ := List.mem_map.1 ha
        rfl
      refine ⟨hbl, by omega, hbl, ?_⟩
      have e00 : (h' ++ [Ob.fam (1 + (D'.length + 1)) 1])[q]? = h'[q]? := List.getElem?_append_left hql
      rw [e00, hq]
      simp [hql, bV_len, zs_len, okStore, hflat, r9]
      refine condA_dec (fun hx => ?_) fun hx => ?_
      · simp
        refine numTail n m hn hm (D := UInt8.ofNat c :: d :: D') (by simp) (by simp; omega) hd' (hex (by omega)) ?_ ?_ ?_
        · simp [r0]
        · simp [r5]
        · simp
          exact hrow _ _ _ (by simp) (by rw [List.getElem?_append_left (by simpa using hql), List.getElem?_set_self hql]) (by simp [bV])
      · simp [r9, ew2, ewd]
        refine ⟨k / 10, by omega, (hI _ _).2 ⟨UInt8.ofNat c :: d :: D', by simpa using hstep, hd', .inr (by omega), by simp [r0], by simp [r5], by simp [r8], by simp, ?_⟩⟩
        simp
        exact hrow _ _ _ (by simp) (by rw [List.getElem?_append_left (by simpa using hql), List.getElem?_set_self hql]) (by simp [bV])

theorem numLoop (n m : Nat) (hn : n < 1000000000) (hm : m < 20) {s : St} (h0 : s.r 0 = .int .i64 n) (h1 : s.r 1 = .int .i64 m) (h5 : s.r 5 = .bool true) (h6 : s.r 6 = .sl .clip []) (h7 : s.r 7 = .int .i64 0) :
    wpA (CallA ap) [0] nb1 (blockA 0 (thenA (wpA (CallA ap) [0] nbT QK) QK)) s := by
  let I : Nat → St → Prop := fun k s => ∃ j : Nat, j + k = m ∧ s.r 0 = .int .i64 n ∧ s.r 1 = .int .i64 m ∧ s.r 5 = .bool true ∧ s.r 7 = .int .i64 j ∧ RowB (zs j) (s.r 6) s.h
  have hI : ∀ k s, I k s ↔ _ := fun k s => Iff.rfl
  refine loop_ind (CallA.hle ap) I ?_ (n := m) ((hI _ _).2 ⟨0, by simp, h0, h1, h5, h7, .inl ⟨rfl, h6⟩⟩)
  rintro k ⟨r, lo, h'⟩ hst
  obtain ⟨j, hj, r0, r1, r5, r7, r6⟩ := (hI _ _).1 hst
  simp only at r0 r1 r5 r7 r6
  by_cases hjm : j < m
  · have hw : IntKind.wrap .i64 ((j : Int) + 1) = ((j + 1 : Nat) : Int) := by rw [wrapn (by omega) (by omega)]; omega
    have hw1 : IntKind.wrap .i64 1 = 1 := wrapn (by omega) (by omega)
    have hlm : j + 1 ≤ lim := by have : 1000 ≤ lim := by decide
                                 omega
    rcases r6 with ⟨e, r6⟩ | ⟨q, ver, r6, hq⟩
    · have : j = 0 := by simpa [zs] using e
      subst this
      have hl1 : 1 ≤ lim := by decide
      simp [forget, noLoc, locOf, r0, r1, r5, r6, r7, hjm, hw1, hl1]
      refine ⟨k - 1, by omega, (hI _ _).2 ⟨1, by omega, by simp [r0], by simp [r1], by simp [r5], by simp, .inr ⟨h'.length, 0, by simp [zs], by simp [zs, bV]⟩⟩⟩
    · have hql : q < h'.length := (List.getElem?_eq_some_iff.1 hq).1
      simp only [zs_len] at r6
      simp [forget, noLoc, locOf, r0, r1, r5, r6, r7, hjm, hw, hlm, hq, bV_len, zs_len, okStore]
      refine ⟨k - 1, by omega, (hI _ _).2 ⟨j + 1, by omega, by simp [r0], by simp [r1], by simp [r5], by simp, .inr ⟨q, ver + 1, by simp [zs_len], ?_⟩⟩⟩
      have : (bV (zs j)).take j = bV (zs j) := List.take_of_length_le (by simp [bV_len, zs_len])
      simp [hql, zs_succ, this]
      simp [bV]
  · have : j = m := by omega
    subst this
    rcases r6 with ⟨e, r6⟩ | ⟨q, ver, r6, hq⟩
    · have : j = 0 := by simpa [zs] using e
      subst this
      simp [forget, noLoc, locOf, r0, r1, r5, r7, r6]
      simp only [nbT, nbS, ac6]
      simp [r6]
      refine numLoop2 n 0 hn hm ?_ ?_ ?_ ?_ ?_
      · simp [r0]
      · simp [r5]
      · simp
      · simp [r0]
      · simp [r6]
        exact .inl ⟨rfl, rfl⟩
    · rw [zs_len] at r6
      simp [forget, noLoc, locOf, r0, r1, r5, r7, r6]
      simp only [nbT, nbS, ac6]
      simp [r6]
      refine numLoop2 n j hn hm ?_ ?_ ?_ ?_ ?_
      · simp [r0]
      · simp [r5]
      · simp
      · simp [r0]
      · simp [r6]
        exact .inr ⟨q, ver, by rw [zs_len], hq⟩

/-- What the two loops make: the zeros, the digits. -/
theorem lexerNumbers (n0 m0 : Int) (hn0 : -9223372036854775808 ≤ n0 ∧ n0 < 9223372036854775808) : CallA ap 6 0 [] [.int .i64 n0, .int .i64 m0] [] fun v _ => v = .bool true := by
  refine CallA.code (af := ac6) rfl (Nat.le_of_ble_eq_true rfl) ?_
  simp [ac6]
  refine first9 (by simp) ?_
  simp
  obtain ⟨m, hm, em⟩ : ∃ m : Nat, m < 20 ∧ numZ m0 20 = (m : Int) := ⟨(numZ m0 20).toNat, by
    have := @numZ_bound m0 20 (by omega)
    omega⟩
  refine condA_dec (fun c0 => ?_) fun c0 => ?_
  · have e1 : IntKind.wrap .i64 (n0 + 1) = n0 + 1 := wrapn (by omega) (by omega)
    have e2 : IntKind.wrap .i64 (-(n0 + 1)) = -(n0 + 1) := by rw [wrapn (by omega) (by omega)]
    obtain ⟨n, hn, e⟩ : ∃ n : Nat, n < 1000000000 ∧ (-(n0 + 1)).tmod 1000000000 = (n : Int) := ⟨((-(n0 + 1)).tmod 1000000000).toNat, by
      have h1 := Int.tmod_lt_of_pos (-(n0 + 1)) (show (0 : Int) < 1000000000 by omega)
      have h2 := Int.tmod_nonneg 1000000000 (show 0 ≤ -(n0 + 1) by omega)
      omega⟩
    simp [e1, e2, e]
    refine numberZ _ _ (by omega) (by omega) ?_
    rw [em]
    simp
    refine numLoop n m hn hm ?_ ?_ ?_ ?_ ?_ <;> simp [e]
  · obtain ⟨n, hn, e⟩ : ∃ n : Nat, n < 1000000000 ∧ n0.tmod 1000000000 = (n : Int) := ⟨(n0.tmod 1000000000).toNat, by
      have h1 := Int.tmod_lt_of_pos n0 (show (0 : Int) < 1000000000 by omega)
      have h2 := Int.tmod_nonneg 1000000000 (show 0 ≤ n0 by omega)
      omega⟩
    simp [e]
    refine numberZ _ _ (by omega) (by omega) ?_
    rw [em]
    simp
    refine numLoop n m hn hm ?_ ?_ ?_ ?_ ?_ <;> simp [e]

theorem int_bd {n : Int} (h : (Lit.int .i64 n).wf = true) : -9223372036854775808 ≤ n ∧ n < 9223372036854775808 := by
  simp only [Lit.wf, Bool.and_eq_true, decide_eq_true_eq] at h
  have h1 : -9223372036854775808 ≤ n := h.1
  have h2 : n ≤ 9223372036854775807 := h.2
  omega

end Go.Ut
