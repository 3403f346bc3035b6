/- The law TypesFuns on the abstract machine. -/
import Derived.Test.YtoachlegeiefaaaBtG
import Derived.Test.YtoachlegeiefaaaBtS2b
import Derived.Test.YtoachlegeiefaaaBtL
namespace Go.Bt
open Go.Am Go.Proofs
set_option maxRecDepth 100000

def sliceN (t : Tag) (xs : List V) : V → Option V
  | .int _ n => if 0 ≤ n ∧ n.toNat ≤ xs.length ∧ (∀ x ∈ xs, x.cells.length = 3) then some (.sl (if n.toNat = xs.length then t else .frozen) (xs.take n.toNat)) else none
  | _ => none

theorem slice3 (r : Nat → V) (t : Tag) (xs : List V) (i n : Nat) (hn : n < xs.length) (hi : r i = .int .i64 n) : sliceV 3 r (.sl t xs) none (some (.t i)) none = some (.sl .frozen (xs.take n)) := by
  show sliceV (2 + 1) r (.sl t xs) none (some (.t i)) none = _
  have h1 : ¬ n = xs.length := by omega
  have h2 : n ≤ xs.length := by omega
  simp [sliceV, bnd, ev, hi, h1, h2]

theorem cmpTs_self (l : List Ty) : cmpTs l l = 0 := by
  have := tys_anti l l
  omega

theorem ty_k0 (t : Ty) (h : 0 < (tyV t).cells.length) : (tyV t).cells[0]'h = .int .i64 (kindT t) := by cases t; simp [tyV, kindT]
theorem sizeTs_snoc (al : List Ty) (t : Ty) : sizeTs (al ++ [t]) = sizeTs al + sizeT t := by rw [sizeTs_append]; simp [sizeTs]

theorem law3 (l : List Int) (n0 : Int) : CallA ap 3 0 [] [.sl .frozen (l.map (.int .i64)), .int .i64 n0] [] fun v _ => v = .bool true := by
  refine CallA.code (af := ac3) rfl (Nat.le_of_ble_eq_true rfl) ?_
  have h1 : n0.tmod 8 < 8 := Int.tmod_lt_of_pos n0 (by omega)
  have h2 : -8 < n0.tmod 8 := Int.lt_tmod_of_pos n0 (by omega)
  have hw : IntKind.wrap .i64 (n0.tmod 8 + 8) = n0.tmod 8 + 8 := wrap64 (by omega) (by omega)
  simp [ac3]
  refine first9 ?_
  by_cases hl : (100 : Int) < l.length
  · simp [hl]
  simp [hl, splice, hw, -Int.tmod_tmod_of_dvd]
  have hK : ∃ n : Nat, n < 8 ∧ (n0.tmod 8 + 8).tmod 8 = (n : Int) := by
    have g1 : (n0.tmod 8 + 8).tmod 8 < 8 := Int.tmod_lt_of_pos _ (by omega)
    have g2 : 0 ≤ (n0.tmod 8 + 8).tmod 8 := Int.tmod_nonneg _ (by omega)
    exact ⟨((n0.tmod 8 + 8).tmod 8).toNat, by omega, by omega⟩
  obtain ⟨n, hn, hK⟩ := hK
  rw [hK]
  obtain ⟨I, hI⟩ : ∃ I : Nat → St → Prop, ∀ m s, I m s ↔ (∃ (al : List Ty) (j : Int), al.length + m = n + 1 ∧ (∀ t ∈ al, okT t = true ∧ sizeT t ≤ 20) ∧ (∀ t, al[n]? = some t → kindT t ≠ 3) ∧ 0 ≤ j ∧ j ≤ 8 * al.length ∧
    s.r 1 = .int .i64 n ∧ s.r 5 = .bool true ∧ s.r 6 = .ptr 0 0 ∧ s.r 8 = .int .i64 (sizeTs al) ∧ s.r 9 = .int .i64 al.length ∧ sizeTs al ≤ 20 * al.length ∧
    (al = [] ∧ s.r 7 = .sl .clip [] ∧ s.h = [seqB .frozen l j] ∨ al ≠ [] ∧ s.r 7 = .sl (.fam 1) (tyVs al) ∧ s.h = [seqB .frozen l j, .fam al.length 3])) := ⟨_, fun _ _ => Iff.rfl⟩
  refine loop_ind (CallA.hle ap) I ?_ (n := n + 1) ((hI _ _).2 ⟨[], 0, by simp [sizeTs, seqB]⟩)
  rintro m ⟨r, lo, h'⟩ hs
  obtain ⟨al, j, hlen, hok, hlast, hj1, hj2, r1, r5, r6, r8, r9, hsz, hor⟩ := (hI _ _).1 hs
  simp only at r1 r5 r6 r8 r9 hor
  have hpos := sizeTs_pos al
  simp [forget, noLoc, r1, r9]
  refine condA_dec (fun hc => ?_) fun hc => ?_
  · have hn9 : al.length ≤ n := by omega
    have hwi : IntKind.wrap .i64 ((al.length : Int) + 1) = ((al.length + 1 : Nat) : Int) := by rw [wrap64 (by omega) (by omega)]; omega
    have hso : ∀ t : Ty, sizeT t ≤ 20 → IntKind.wrap .i64 (sizeTs al + sizeT t) = sizeTs al + sizeT t := fun t ht => by
      have := sizeT_pos t
      exact wrap64 (by omega) (by omega)
    -- what is made is fit
    have fit : ∀ t : Ty, Made 2 t → okT t = true ∧ sizeT t ≤ 20 ∧ okT (.mk 2 [76, 105, 115, 116] [t]) = true ∧ sizeT (.mk 2 [76, 105, 115, 116] [t]) ≤ 20 := fun t ht => by
      have h1 := ht.size
      have h2 := ht.ok
      have h3 : (2 : Int) ^ (2 + 1) = 8 := by decide
      rw [h3] at h1
      refine ⟨h2, by omega, by simp [okT, okTs, h2], by simp [sizeT, sizeTs]; omega⟩
    -- the row with one more
    have more : ∀ t : Ty, okT t = true → sizeT t ≤ 20 → (al.length = n → kindT t ≠ 3) → (∀ u ∈ al ++ [t], okT u = true ∧ sizeT u ≤ 20) ∧ (∀ u, (al ++ [t])[n]? = some u → kindT u ≠ 3) ∧ sizeTs (al ++ [t]) ≤ 20 * (al ++ [t]).length := fun t h1 h2 h3 => by
      refine ⟨fun u hu => ?_, fun u hu => ?_, ?_⟩
      · simp at hu
        rcases hu with hu | rfl
        · exact hok u hu
        · exact ⟨h1, h2⟩
      · by_cases hin : al.length = n
        · rw [← hin] at hu
          simp at hu
          subst hu
          exact h3 hin
        · rw [List.getElem?_eq_none (by simp; omega)] at hu
          cases hu
      · rw [sizeTs_snoc]
        simp
        omega
    rcases hor with ⟨rfl, r7, rfl⟩ | ⟨hne, r7, rfl⟩
    · simp [r6]
      refine made10 .frozen l 0 2 2 j _ _ _ (by omega) (by omega) (by omega) hj1 (by simp at hj2; omega) rfl fun t j' hj3 hj4 ht => ?_
      obtain ⟨f1, f2, f3, f4⟩ := fit t ht
      have hp8 : (2 : Int) ^ (2 + 1) = 8 := by decide
      rw [hp8] at hj4
      by_cases hin : n = 0
      · subst hin
        by_cases hk : kindT t = 3
        · have hkb : (kindT t == 3) = true := by simpa using hk
          simp [r1, r9, splice, ty_take, ty_agg, ty_k0, demote_ty, hkb]
          refine con8_1 _ t ?_
          simp [r7, r8, splice, ty_agg, demote_ty, lim]
          refine size9 _ (.mk 2 [76, 105, 115, 116] [t]) (Nat.le_refl _) f3 (by omega) _ _ _ ?_
          have hz := hso (.mk 2 [76, 105, 115, 116] [t]) f4
          simp only [sizeTs, Int.zero_add] at hz
          simp [r9, w1]
          obtain ⟨q1, q2, q3⟩ := more (.mk 2 [76, 105, 115, 116] [t]) f3 f4 (by simp [kindT])
          refine ⟨m - 1, by simp at hlen; omega, (hI _ _).2 ⟨[.mk 2 [76, 105, 115, 116] [t]], j', by simp at hlen ⊢; omega, by simpa using q1, by simpa using q2, by omega, by simp at hj2 ⊢; omega, ?_⟩⟩
          simp [r1, r5, r6, sizeTs, tyVs, hz]
          simpa [sizeTs] using q3
        · have hkb : (kindT t == 3) = false := by simpa using hk
          simp [r1, r7, r8, r9, splice, ty_take, ty_agg, ty_k0, demote_ty, lim, hkb]
          refine size9 _ (t) (Nat.le_refl _) f1 (by omega) _ _ _ ?_
          have hz := hso (t) f2
          simp only [sizeTs, Int.zero_add] at hz
          simp [r9, w1]
          obtain ⟨q1, q2, q3⟩ := more (t) f1 f2 (by exact fun _ => hk)
          refine ⟨m - 1, by simp at hlen; omega, (hI _ _).2 ⟨[t], j', by simp at hlen ⊢; omega, by simpa using q1, by simpa using q2, by omega, by simp at hj2 ⊢; omega, ?_⟩⟩
          simp [r1, r5, r6, sizeTs, tyVs, hz]
          simpa [sizeTs] using q3
      · have hb : ((0 : Int) == (n : Int)) = false := beq_eq_false_iff_ne.2 (by omega)
        simp [r1, r7, r8, r9, splice, ty_take, ty_agg, demote_ty, lim, hb]
        refine size9 _ (t) (Nat.le_refl _) f1 (by omega) _ _ _ ?_
        have hz := hso (t) f2
        simp only [sizeTs, Int.zero_add] at hz
        simp [r9, w1]
        obtain ⟨q1, q2, q3⟩ := more (t) f1 f2 (by intro h; simp at h; omega)
        refine ⟨m - 1, by simp at hlen; omega, (hI _ _).2 ⟨[t], j', by simp at hlen ⊢; omega, by simpa using q1, by simpa using q2, by omega, by simp at hj2 ⊢; omega, ?_⟩⟩
        simp [r1, r5, r6, sizeTs, tyVs, hz]
        simpa [sizeTs] using q3
    · have h0 := List.length_pos_iff.2 hne
      simp [r6]
      refine made10 .frozen l 0 2 2 j _ _ _ (by omega) (by omega) (by omega) hj1 (by omega) rfl fun t j' hj3 hj4 ht => ?_
      obtain ⟨f1, f2, f3, f4⟩ := fit t ht
      have hp8 : (2 : Int) ^ (2 + 1) = 8 := by decide
      rw [hp8] at hj4
      by_cases hin : al.length = n
      · have hb : ((al.length : Int) == (n : Int)) = true := beq_iff_eq.2 (by omega)
        by_cases hk : kindT t = 3
        · have hkb : (kindT t == 3) = true := by simpa using hk
          simp [r1, r9, splice, ty_take, ty_agg, ty_k0, demote_ty, hkb, hb]
          refine con8_1 _ t ?_
          simp [r7, r8, splice, ty_agg, demote_ty, lim]
          refine ⟨fun v hv => hv.elim tys_cells (fun e => e ▸ ty_cells _), by omega, ?_⟩
          refine size9 _ (.mk 2 [76, 105, 115, 116] [t]) (Nat.le_refl _) f3 (by omega) _ _ _ ?_
          have hz := hso (.mk 2 [76, 105, 115, 116] [t]) f4
          simp [r9, hz, hwi]
          obtain ⟨q1, q2, q3⟩ := more (.mk 2 [76, 105, 115, 116] [t]) f3 f4 (by simp [kindT])
          refine ⟨m - 1, by omega, (hI _ _).2 ⟨al ++ [.mk 2 [76, 105, 115, 116] [t]], j', by simp; omega, q1, q2, by omega, by simp; omega, ?_⟩⟩
          simp [r1, r5, r6, sizeTs_snoc, tyVs, tys_append]
          simpa [sizeTs_snoc] using q3
        · have hkb : (kindT t == 3) = false := by simpa using hk
          simp [r1, r7, r8, r9, splice, ty_take, ty_agg, ty_k0, demote_ty, lim, hkb, hb]
          refine ⟨fun v hv => hv.elim tys_cells (fun e => e ▸ ty_cells _), by omega, ?_⟩
          refine size9 _ (t) (Nat.le_refl _) f1 (by omega) _ _ _ ?_
          have hz := hso (t) f2
          simp [r9, hz, hwi]
          obtain ⟨q1, q2, q3⟩ := more (t) f1 f2 (by exact fun _ => hk)
          refine ⟨m - 1, by omega, (hI _ _).2 ⟨al ++ [t], j', by simp; omega, q1, q2, by omega, by simp; omega, ?_⟩⟩
          simp [r1, r5, r6, sizeTs_snoc, tyVs, tys_append]
          simpa [sizeTs_snoc] using q3
      · have hb : ((al.length : Int) == (n : Int)) = false := beq_eq_false_iff_ne.2 (by omega)
        simp [r1, r7, r8, r9, splice, ty_take, ty_agg, demote_ty, lim, hb]
        refine ⟨fun v hv => hv.elim tys_cells (fun e => e ▸ ty_cells _), by omega, ?_⟩
        refine size9 _ (t) (Nat.le_refl _) f1 (by omega) _ _ _ ?_
        have hz := hso (t) f2
        simp [r9, hz, hwi]
        obtain ⟨q1, q2, q3⟩ := more (t) f1 f2 (by intro h; omega)
        refine ⟨m - 1, by omega, (hI _ _).2 ⟨al ++ [t], j', by simp; omega, q1, q2, by omega, by simp; omega, ?_⟩⟩
        simp [r1, r5, r6, sizeTs_snoc, tyVs, tys_append]
        simpa [sizeTs_snoc] using q3
  · have hal : al ≠ [] := fun e => by subst e; simp at hc
    obtain ⟨bl, t, rfl⟩ : ∃ bl t, al = bl ++ [t] := ⟨al.dropLast, al.getLast hal, (List.dropLast_concat_getLast hal).symm⟩
    have hbl : bl.length = n := by simp at hlen hc; omega
    have hnl : ¬ (n + 1 ≤ n) := by omega
    rcases hor with ⟨e, -, -⟩ | ⟨-, r7, rfl⟩
    · exact absurd e hal
    have hokb : ∀ a ∈ bl, okT a = true := fun a ha => (hok a (by simp [ha])).1
    have hokt := hok t (by simp)
    have hkt : kindT t ≠ 3 := hlast t (by rw [← hbl]; simp)
    have hokf : okT (funT (bl ++ [t])) = true := funT_ok _ (okTs_iff.2 fun u hu => (hok u hu).1)
    have hsf := funT_size bl t
    have hsb : sizeTs (bl ++ [t]) ≤ 20 * (n + 1 : Nat) := by simp [hbl] at hsz ⊢; omega
    have hgt : (tyVs (bl ++ [t]))[n]? = some (tyV t) := by rw [tys_get, ← hbl]; simp
    have hgt' : ∀ h : n < (tyVs (bl ++ [t])).length, (tyVs (bl ++ [t]))[n]'h = tyV t := fun h => by
      have := List.getElem?_eq_getElem h
      rw [hgt] at this
      exact (Option.some.inj this).symm
    have htk : (tyVs (bl ++ [t])).take n = tyVs bl := by rw [tys_take, ← hbl]; simp
    have hcl : ∀ x ∈ tyVs (bl ++ [t]), x.cells.length = 3 := fun x hx => tys_cells hx
    have hds : demoteL (tyVs (bl ++ [t])) = tyVs (bl ++ [t]) := demote_tys _
    simp [r7, hbl, hds]
    refine fun10 (bl ++ [t]) (by simp) (by simp; omega) ?_
    simp [splice, ty_take, ty_agg, demote_ty, ty_cells, ty_loc]
    refine parts11 bl t (by omega) hokb hokt.1 hkt ?_
    simp [splice, ty_cells, ty_loc]
    refine fun10_0 _ ?_
    simp [r1, r5, r7, splice, ty_cells, ty_loc]
    have hsl : ∀ r : Nat → V, r 67 = .int .i64 n → sliceV 3 r (.sl (.fam 1) (tyVs (bl ++ [t]))) none (some (.t 67)) none = some (.sl .frozen (tyVs bl)) := fun r hr => by
      rw [slice3 r (.fam 1) _ 67 n (by simp; omega) hr, htk]
    simp [hsl, demote_tys]
    refine sames42 bl bl (by omega) (fun a ha b hb => sameOk (hokb a ha) (hokb b hb)) ?_
    have hbb : beqTs bl bl = true := (beqTs_iff bl bl).2 rfl
    simp [r1, r7, ty_take, ty_agg, demote_ty, ty_cells, ty_loc, hbl, hbb, hgt']
    refine same12 t t hokt.1 hokt.1 ?_
    simp [ty_take, ty_agg, demote_ty, ty_cells, ty_loc, ty_refl]
    refine size9 _ (funT (bl ++ [t])) (Nat.le_refl _) hokf (by omega) _ _ _ ?_
    have hw2 : IntKind.wrap .i64 (sizeTs (bl ++ [t]) + (n : Int)) = sizeTs (bl ++ [t]) + n := wrap64 (by omega) (by omega)
    rw [hsf, hbl]
    simp [r1, r7, r8, ty_take, ty_agg, demote_ty, ty_cells, ty_loc, hbl, hw2, funT, tyV, tyVs, hgt']
    have e1 : tyVs [t] = [tyV t] := rfl
    rw [← e1]
    refine fun10 [t] (by simp) (by simp) ?_
    simp [r1, r7, ty_take, ty_agg, demote_ty, ty_cells, ty_loc, hbl, hgt', funT]
    refine same12 t t hokt.1 hokt.1 ?_
    simp [ty_refl]

end Go.Bt
