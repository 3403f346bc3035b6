/- Which names are free: the law on the abstract machine. -/
import Derived.Test.YtabjkoehbbobdaaTtF9
namespace Go.Tt
open Go.Am Go.Proofs
set_option maxRecDepth 100000

theorem mkOk (tg : Tag) (l : List Int) (p : Nat) : ∀ m : Nat, MkS tg l p m
  | 0 => fun deep i vars bs h Q h1 h2 h3 h4 h5 h6 h7 h8 => mk_leaf tg l p 0 deep i (by omega) vars bs h Q h3 h4 (by omega) h6 h7 h1 h8
  | m + 1 => fun deep i vars bs h Q h1 h2 h3 h4 h5 h6 h7 h8 => by
    by_cases hd : deep < 1
    · exact mk_leaf tg l p (m + 1) deep i hd vars bs h Q h3 h4 (by omega) h6 h7 h1 h8
    · exact mk_step tg l p m (mkOk tg l p m) deep i hd vars bs h Q h2 h3 h4 h5 h6 h7 h8

section
variable {bs : List Nat} {h : List Ob} {Q : V → List Ob → Prop}

theorem free6' (t : Tm) (v : V) (hv : v = tmV t) (hbs : ∀ x ∈ bs, x ≤ h.length) (ht : shT t = true) (hs : szT t ≤ 9000) (hq : Q (.sl .frozen ((frT t (fun _ => 0) []).map .str)) h) : CallA ap 6 0 bs [v] h Q := by
  subst hv; exact free6 t hbs ht hs hq

theorem size10' (t : Tm) (v : V) (hv : v = tmV t) (hs : szT t ≤ 1000000) (hq : Q (.int .i64 (szT t)) h) : CallA ap 10 0 bs [v] h Q := by
  subst hv; exact sizeOkT t _ _ _ hs hq

theorem var7 (s : Nm) (hq : Q (.agg [.int .i64 1, .str s, .int .i64 0, .int .i64 0, .str [], .sl .frozen [], .sl .frozen [], .sl .frozen [], .sl .frozen []]) h) : CallA ap 7 0 bs [.str s] h Q := by
  refine CallA.code (af := ac7) rfl (Nat.le_of_ble_eq_true rfl) ?_
  simp [ac7, splice]
  simpa using hq

def tmX : Tm := .mk 1 [120] 0 ty0 .nil .nil .nil
theorem tmX_v : tmV tmX = .agg [.int .i64 1, .str [120], .int .i64 0, .int .i64 0, .str [], .sl .frozen [], .sl .frozen [], .sl .frozen [], .sl .frozen []] := leaf_v 1 [120] 0

theorem first4 (hbs : ∀ x ∈ bs, x ≤ h.length) (hq : Q (.bool true) h) : CallA ap 4 0 bs [] h Q := by
  refine CallA.code (af := ac4) rfl (Nat.le_of_ble_eq_true rfl) ?_
  simp [ac4]
  refine var7 _ ?_
  simp [splice]
  refine CallA.code (af := ac11) rfl (Nat.le_of_ble_eq_true rfl) ?_
  simp [ac11]
  refine wpA_loop (CallA.hle ap) ?_
  simp [forget, noLoc, locOf, splice, w1]
  refine wpA_loop (CallA.hle ap) ?_
  simp [forget, noLoc, locOf, splice]
  refine free6' (.mk 5 [] 0 ty0 (.cons tmX (.cons tmX .nil)) .nil .nil) _ ?_ (fun x hx => ?_) (by rfl) (by decide) ?_
  · simp [tm_mk, ty0, tmVs, tyVs, alVs, biVs, tmX]
  · rcases List.mem_cons.1 hx with rfl | hx
    · exact Nat.le_refl _
    · exact hbs x hx
  have e : frT (.mk 5 [] 0 ty0 (.cons tmX (.cons tmX .nil)) .nil .nil) (fun _ => 0) [] = [[120]] := by simp [frT, frL, frA, tmX, addN]
  rw [e]
  simp
  refine size10' tmX _ tmX_v.symm (by decide) ?_
  have e2 : szT tmX = 1 := rfl
  simp [e2]
  refine CallA.code (af := ac12) rfl (Nat.le_of_ble_eq_true rfl) ?_
  simp [ac12]
  exact hq

end

theorem nameW (w : Int) : ∃ x : Nm, x ≠ [95] ∧ x ≠ [113] ∧ iaddrV 1 (.sl .clip [.str [120], .str [121], .str [119]]) (.int .i64 ((IntKind.wrap .i64 (w.tmod 3 + 3)).tmod 3)) = some (.elp (.str x) 0) := by
  have h1 : w.tmod 3 < 3 := Int.tmod_lt_of_pos w (by omega)
  have h2 : -3 < w.tmod 3 := Int.lt_tmod_of_pos w (by omega)
  rw [wrap64 (by omega) (by omega)]
  generalize w.tmod 3 = r at h1 h2
  have : r = -2 ∨ r = -1 ∨ r = 0 ∨ r = 1 ∨ r = 2 := by omega
  rcases this with rfl | rfl | rfl | rfl | rfl
  · exact ⟨[121], by decide, by decide, rfl⟩
  · exact ⟨[119], by decide, by decide, rfl⟩
  · exact ⟨[120], by decide, by decide, rfl⟩
  · exact ⟨[121], by decide, by decide, rfl⟩
  · exact ⟨[119], by decide, by decide, rfl⟩

def tyI : Ty := .mk 2 [73, 110, 116] []

theorem law3f (a : List Int) (w : Int) : CallA ap 3 0 [] [.sl .frozen (a.map (.int .i64)), .int .i64 w] [] fun v _ => v = .bool true := by
  refine CallA.code (af := ac3) rfl (Nat.le_of_ble_eq_true rfl) ?_
  simp [ac3]
  refine first4 (by simp) ?_
  simp
  by_cases h1 : (150 : Int) < a.length
  · simp [h1]
  simp [h1, splice]
  refine mkOk .frozen a 0 4 4 0 [[120], [121]] _ _ _ (by omega) (by omega) (by omega) (by omega) (by simp) (by simp) rfl fun t j hj1 hj2 ht => ?_
  obtain ⟨x, hx1, hx2, hxi⟩ := nameW w
  have hok := ht.ok
  have hsh := ht.sh
  have hsz := ht.sz
  obtain ⟨f1, f2, f3⟩ := free_law t x [113] hx1 hx2 hok
  have hlenA := lenT t (fun _ => 0) []
  simp only [List.length_nil, Nat.zero_add] at hlenA
  obtain ⟨A, hA⟩ : ∃ A, A = frT t (fun _ => 0) [] := ⟨_, rfl⟩
  obtain ⟨B, hB⟩ : ∃ B, B = A.filter (· != x) := ⟨_, rfl⟩
  rw [← hA, ← hB] at f1 f2 f3
  have hlenB : B.length ≤ A.length := by rw [hB]; exact List.length_filter_le _ _
  rw [← hA] at hlenA
  simp [splice, hxi, tm_take, tm_agg, demote_tm]
  have hz : szT t ≤ 1250 := hsz
  refine free6' t _ rfl (by simp) hsh (by omega) ?_
  rw [← hA]
  obtain ⟨kt, st, nt, ⟨kt', nt', lt'⟩, t1, t2, t3⟩ := t
  obtain ⟨T, hT⟩ : ∃ T : Tm, T = .mk kt st nt (.mk kt' nt' lt') t1 t2 t3 := ⟨_, rfl⟩
  simp [tm_mk, splice]
  rw [← hT] at f1 f2 f3 hA hsh hz hsz hlenA hok
  have d : demoteL (tyVs lt') = tyVs lt' ∧ demoteL (tmVs t1) = tmVs t1 ∧ demoteL (alVs t2) = alVs t2 ∧ demoteL (biVs t3) = biVs t3 := ⟨demote_tys _, demote_tms _, demote_als _, demote_bis _⟩
  simp [d.1, d.2.1, d.2.2.1, d.2.2.2]
  have eT : tmV T = .agg [.int .i64 kt, .str st, .int .i64 nt, .int .i64 kt', .str nt', .sl .frozen (tyVs lt'), .sl .frozen (tmVs t1), .sl .frozen (alVs t2), .sl .frozen (biVs t3)] := by rw [hT, tm_mk]
  refine free6' (.mk 6 x 0 tyI (.cons T .nil) .nil .nil) _ (by simp [tm_mk, tyI, tyVs, tmVs, alVs, biVs, eT]) (by simp) (by simp [shT, shL, shA, shB, hsh, Binds.names]) (by simp [szT, szL, szA, szB]; omega) ?_
  have e1 : frT (.mk 6 x 0 tyI (.cons T .nil) .nil .nil) (fun _ => 0) [] = B := by rw [frT]; simp [f1]
  rw [e1]
  simp [d.1, d.2.1, d.2.2.1, d.2.2.2, splice]
  refine free6' (.mk 9 [] 0 ty0 (.cons T .nil) .nil (.cons x tyI T .nil)) _ (by simp [tm_mk, tyI, ty0, tyV, tyVs, tmVs, alVs, biVs, eT]) (by simp) (by simp [shT, shL, shA, shB, hsh, Binds.names]) (by simp [szT, szL, szA, szB]; omega) ?_
  have e2 : frT (.mk 9 [] 0 ty0 (.cons T .nil) .nil (.cons x tyI T .nil)) (fun _ => 0) [] = B := by
    rw [frT]; simp only [Binds.names, frB]; simp [f2]
  rw [e2]
  simp
  refine var7 _ ?_
  simp [d.1, d.2.1, d.2.2.1, d.2.2.2, splice]
  refine free6' (.mk 10 [] 0 tyI (.cons (.mk 1 [113] 0 ty0 .nil .nil .nil) .nil) (.cons [67] [[95], x] T .nil) .nil) _ (by simp [tm_mk, tyI, ty0, tyVs, tmVs, alVs, biVs, eT]) (by simp) (by simp [shT, shL, shA, shB, hsh, Binds.names]) (by simp [szT, szL, szA, szB]; omega) ?_
  have e3 : frT (.mk 10 [] 0 tyI (.cons (.mk 1 [113] 0 ty0 .nil .nil .nil) .nil) (.cons [67] [[95], x] T .nil) .nil) (fun _ => 0) [] = [113] :: B := by
    have e0 : frT (.mk 1 [113] 0 ty0 .nil .nil .nil) (fun _ => 0) [] = [[113]] := by rw [frT]; simp [addN]
    rw [frT]; simp only [frL, frA]; rw [e0]; simpa using f3
  rw [e3]
  simp [d.1, d.2.1, d.2.2.1, d.2.2.2, splice]
  refine free6' (.mk 8 x 0 ty0 (.cons T .nil) .nil .nil) _ (by simp [tm_mk, ty0, tyVs, tmVs, alVs, biVs, eT]) (by simp) (by simp [shT, shL, shA, shB, hsh, Binds.names]) (by simp [szT, szL, szA, szB]; omega) ?_
  have e4 : frT (.mk 8 x 0 ty0 (.cons T .nil) .nil .nil) (fun _ => 0) [] = A := by
    rw [frT]; simp only [frL, frA]; simp [hA]
  rw [e4]
  simp
  have hA9 : A.length ≤ 1250 := by omega
  clear ht hok hsh hA f1 f2 f3 hT e1 e2 e3 e4 hxi
  obtain ⟨I, hI⟩ : ∃ I : Nat → St → Prop, ∀ n s, I n s ↔ (∃ i : Nat, i + n = A.length ∧ s.r 5 = .bool true ∧ s.r 6 = .loc 6 0 ∧ s.r 7 = .str x ∧ s.r 9 = .sl .frozen (A.map .str) ∧ s.r 10 = .sl .frozen (B.map .str) ∧ s.r 11 = .sl .frozen (B.map .str) ∧ s.r 12 = .sl .frozen (([113] :: B).map .str) ∧ s.r 13 = .sl .frozen (A.map .str) ∧ s.r 14 = .int .i64 (((A.take i).filter (· != x)).length : Nat) ∧ s.r 15 = .int .i64 i ∧
    s.l 6 = some (tmV T).cells ∧ s.h = [seqB .frozen a j]) := ⟨_, fun _ _ => Iff.rfl⟩
  refine loop_ind (CallA.hle ap) I ?_ (n := A.length) ((hI _ _).2 ⟨0, by simp [eT]⟩)
  rintro n ⟨r, lo, h'⟩ hst
  obtain ⟨i, hin, r5, r6, r7, r9, r10, r11, r12, r13, r14, r15, l6, rfl⟩ := (hI _ _).1 hst
  simp only at r5 r6 r7 r9 r10 r11 r12 r13 r14 r15 l6
  simp [forget, noLoc, locOf, r9, r15]
  refine condA_dec (fun c1 => ?_) fun c1 => ?_
  · have hi : i < A.length := by omega
    have hw : IntKind.wrap .i64 ((i : Int) + 1) = ((i + 1 : Nat) : Int) := by rw [wrap64 (by omega) (by omega)]; omega
    have ht : A.take (i + 1) = A.take i ++ [A[i]] := by rw [List.take_add_one, List.getElem?_eq_getElem hi]; rfl
    have hfl : ((A.take i).filter (· != x)).length ≤ A.length := Nat.le_trans (List.length_filter_le _ _) (by simp; omega)
    have hnx : ∀ c, c = ((A.take i).filter (· != x)).length + (if A[i] = x then 0 else 1) → ((A.take (i + 1)).filter (· != x)).length = c := by
      intro c hc
      rw [ht, List.filter_append, List.length_append, hc]
      by_cases he : A[i] = x <;> simp [he]
    by_cases he : A[i] = x
    · have hb : (A[i] == x) = true := by simpa using he
      simp [r7, r9, r15, hi, hb, hw]
      refine ⟨n - 1, by omega, (hI _ _).2 ⟨i + 1, by omega, by simp [r5, r6, r7, r9, r10, r11, r12, r13, r14, l6, hnx _ (by rw [if_pos he])]⟩⟩
    · have hb : (A[i] == x) = false := by simpa using he
      have hm : A[i] ∈ B := by rw [hB]; simp [he]
      have hw2 : IntKind.wrap .i64 ((((A.take i).filter (· != x)).length : Int) + 1) = ((((A.take i).filter (· != x)).length + 1 : Nat) : Int) := by rw [wrap64 (by omega) (by omega)]; omega
      simp [r7, r9, r10, r14, r15, hi, hb, hw2, dem_strs']
      refine has40 B A[i] (by omega) fun b hb => ?_
      rw [hb.2 hm]
      simp [r9, r11, r15, hi, dem_strs']
      refine has40 B A[i] (by omega) fun b hb => ?_
      rw [hb.2 hm]
      simp [r9, r12, r15, hi, dem_strs']
      refine has40 ([113] :: B) A[i] (by simp; omega) fun b hb => ?_
      rw [hb.2 (List.mem_cons_of_mem _ hm)]
      simp [r15, hw]
      refine ⟨n - 1, by omega, (hI _ _).2 ⟨i + 1, by omega, by simp [r5, r6, r7, r9, r10, r11, r12, r13, l6, hnx _ (by rw [if_neg he])]⟩⟩
  · have hi : i = A.length := by omega
    have e1 : (A.take i).filter (· != x) = B := by rw [hi, List.take_length, hB]
    have hw2 : IntKind.wrap .i64 ((B.length : Int) + 1) = ((B.length + 1 : Nat) : Int) := by rw [wrap64 (by omega) (by omega)]; omega
    simp [r5, r9, r10, r11, r12, r13, r14, e1, hw2, dem_strs']
    refine same9 A (by omega) ?_
    simp [r6, l6, splice, tm_take, tm_agg, demote_tm]
    refine size10' (.mk 5 [] 0 ty0 (.cons T (.cons T .nil)) .nil .nil) _ (by simp [tm_mk, ty0, tyVs, tmVs, alVs, biVs]) (by simp [szT, szL, szA, szB]; omega) ?_
    have e2 : szT (.mk 5 [] 0 ty0 (.cons T (.cons T .nil)) .nil .nil) = 2 * szT T + 1 := by simp [szT, szL, szA, szB]; omega
    have e3 : IntKind.wrap .i64 (2 * (szT T : Int)) = 2 * (szT T : Int) := wrap64 (by omega) (by omega)
    have e4 : IntKind.wrap .i64 (2 * (szT T : Int) + 1) = 2 * (szT T : Int) + 1 := wrap64 (by omega) (by omega)
    rw [e2]
    simp [r6, l6, tm_take, tm_agg, demote_tm]
    refine size10' T _ rfl (by omega) ?_
    simp [e3, e4]

end Go.Tt
