/- The law ForceEndless on the abstract machine: joined. (Printed by gen33.py.) -/
import Derived.Test.YtjdkaoiokdfmgaaDoorRtRf
import Derived.Test.YtjdkaoiokdfmgaaDoorRtRc
namespace Go.Rt
open Go.Am Go.Proofs
set_option maxRecDepth 100000
set_option maxHeartbeats 8000000

def nE (cv : Int) : List Ob := [.map [] [] 0, .box [(.map (some 0)), (.int .i64 0)], .map [(.str [118, 49], .int .i64 0)] [0] 1, .box [(.map (some 2)), (.int .i64 1)], .box [(.sl .clip []), (.int .i64 1), (.int .i64 (-1)), (.ptr 5 0)], .box [(.int .i64 9), (.int .i64 0), (.str []), (.int .i64 (-1)), (.ptr 17 0), .nilp, (.sl (.fam 6) [(.int .i64 0)]), (.sl (.fam 16) [(.ptr 9 0)]), .nilp, (.sl .clip [])], .fam 1 1, .map [(.str [118, 49], .int .i64 0)] [0] 1, .box [(.map (some 7)), (.int .i64 1)], .box [(.sl (.fam 10) [(.int .i64 0)]), (.int .i64 1), (.int .i64 (-1)), (.ptr 11 0)], .fam 1 1, .box [(.int .i64 5), (.int .i64 0), (.str []), (.int .i64 (-1)), (.ptr 12 0), (.ptr 15 0), (.sl .clip []), (.sl .clip []), .nilp, (.sl .clip [])], .box [(.int .i64 5), (.int .i64 0), (.str []), (.int .i64 (-1)), (.ptr 13 0), (.ptr 14 0), (.sl .clip []), (.sl .clip []), .nilp, (.sl .clip [])], .box [(.int .i64 2), (.int .i64 0), (.str [67, 111, 110, 115]), (.int .i64 (-1)), .nilp, .nilp, (.sl .clip []), (.sl .clip []), .nilp, (.sl .clip [])], .box [(.int .i64 3), (.int .i64 1), (.str []), (.int .i64 (-1)), .nilp, .nilp, (.sl .clip []), (.sl .clip []), .nilp, (.sl .clip [])], .box [(.int .i64 1), (.int .i64 0), (.str [118, 49]), (.int .i64 0), .nilp, .nilp, (.sl .clip []), (.sl .clip []), .nilp, (.sl .clip [])], .fam 1 1, .box [(.int .i64 1), (.int .i64 0), (.str [118, 49]), (.int .i64 0), .nilp, .nilp, (.sl .clip []), (.sl .clip []), .nilp, (.sl .clip [])], .box [.nilp, (.bool false), (.ptr 4 0), (.sl .clip [])], .box [(.int .i64 cv), (.int .i64 0), (.int .i64 0), .nili, (.ptr 18 0), (.sl .clip []), (.sl .clip []), .nilp, (.sl .clip []), .nilp, (.bool false)]]

def gE0 (cv f : Int) : List Ob := gE (mE cv (.ptr 18 0) (.sl .clip []) (.vec 21 3 0 0 7) (.ptr 31 0)) (wE f (.sl .clip [])) []

theorem partsE0 (cv f : Int) (hf : 0 ≤ f ∧ f < 2147483648) (Q : V → List Ob → Prop) (hq : ∀ h, Q (.sent 0) h) : CallA ap 30 0 [0, 0] [.ptr 20 0, .str [67, 111, 110, 115], .int .i64 2] (gE0 cv f) Q := by
  refine partsE cv f hf 0 (by omega) (lvl cv f hf 12499 1 (by omega)) (h1 := gE (mE cv (.ptr 18 0) (.sl .clip []) (.vec 21 3 0 0 7) (.ptr 31 0)) (wE f (.vec 32 0 0 5 1)) [.vec 0 1 (bytesI [40, 67, 111, 110, 115])])
    (h2 := gE (mE cv (.ptr 18 0) (.sl .clip []) (.vec 21 3 0 0 7) (.ptr 31 0)) (wE f (.vec 32 1 0 6 1)) [.vec 1 1 (bytesI [40, 67, 111, 110, 115, 32])]) rfl (todo := .vec 21 3 0 0 7) (v := .ptr 31 0) (.inl rfl)
    (vo := 1) (va := 0) (q := 18) (co := bytesI [40, 67, 111, 110, 115, 32]) (ca := [.ptr 18 0]) (.inl rfl) rfl rfl ?_ ?_ ?_ ?_ Q (fun h _ => hq h)
  · intro p hp; rw [List.mem_singleton] at hp; exact ⟨_, hp⟩
  · intro Q hq
    exact runsO ov_ok 3000 (v := .nili) (h' := _) (by clear hq; as_aux_lemma => kernel_rfl) hq
  · intro Q hq
    exact runsO ov_ok 3000 (v := .nili) (h' := _) (by clear hq; as_aux_lemma => kernel_rfl) hq
  · intro Q hq
    exact runsO ov_ok 3000 (v := .bool true) (h' := _) (by clear hq; as_aux_lemma => kernel_rfl) hq

theorem topE0 (cv f : Int) (Q : V → List Ob → Prop) (hq : Q (.tup [.str [67, 111, 110, 115], .int .i64 0, .int .i64 2]) (gE0 cv f)) : CallA ap 26 0 [0, 0] [.ptr 19 0] (gE0 cv f) Q :=
  runsO ov_ok 3000 (v := .tup [.str [67, 111, 110, 115], .int .i64 0, .int .i64 2]) (h' := gE0 cv f) (by clear hq; as_aux_lemma => kernel_rfl) hq

theorem loopE (c : Nat) (F G : Int) (hG : 10 ≤ G) (hG2 : G < 2147483648) {σ : St} (h0 : σ.r 0 = .ptr 19 0) (h1 : σ.r 1 = .int .i64 G) (hh : σ.h = hE0 c F) (Q : AX → St → Prop)
    (hq : ∀ σ' : St, σ'.r 0 = .ptr 19 0 → σ'.h = hE10 c F → Q (.exit 0) σ') : wpA (CallA ap) [0, 0] (.loop [0, 1] [] bodyE) Q σ := by
  refine wpA_loop (CallA.hle ap) ?_
  refine roundE0 c F G (by omega) (by omega) h0 h1 hh _ fun σ1 a1 b1 c1 => ?_
  simp only [thenA]

  refine wpA_loop (CallA.hle ap) ?_
  refine roundE1 c F (G - 1) (by omega) (by omega) a1 b1 c1 _ fun σ2 a2 b2 c2 => ?_
  simp only [thenA]
  have b2 : σ2.r 1 = .int .i64 (G - 2) := by rw [b2]; congr 1; omega
  refine wpA_loop (CallA.hle ap) ?_
  refine roundE2 c F (G - 2) (by omega) (by omega) a2 b2 c2 _ fun σ3 a3 b3 c3 => ?_
  simp only [thenA]
  have b3 : σ3.r 1 = .int .i64 (G - 3) := by rw [b3]; congr 1; omega
  refine wpA_loop (CallA.hle ap) ?_
  refine roundE3 c F (G - 3) (by omega) (by omega) a3 b3 c3 _ fun σ4 a4 b4 c4 => ?_
  simp only [thenA]
  have b4 : σ4.r 1 = .int .i64 (G - 4) := by rw [b4]; congr 1; omega
  refine wpA_loop (CallA.hle ap) ?_
  refine roundE4 c F (G - 4) (by omega) (by omega) a4 b4 c4 _ fun σ5 a5 b5 c5 => ?_
  simp only [thenA]
  have b5 : σ5.r 1 = .int .i64 (G - 5) := by rw [b5]; congr 1; omega
  refine wpA_loop (CallA.hle ap) ?_
  refine roundE5 c F (G - 5) (by omega) (by omega) a5 b5 c5 _ fun σ6 a6 b6 c6 => ?_
  simp only [thenA]
  have b6 : σ6.r 1 = .int .i64 (G - 6) := by rw [b6]; congr 1; omega
  refine wpA_loop (CallA.hle ap) ?_
  refine roundE6 c F (G - 6) (by omega) (by omega) a6 b6 c6 _ fun σ7 a7 b7 c7 => ?_
  simp only [thenA]
  have b7 : σ7.r 1 = .int .i64 (G - 7) := by rw [b7]; congr 1; omega
  refine wpA_loop (CallA.hle ap) ?_
  refine roundE7 c F (G - 7) (by omega) (by omega) a7 b7 c7 _ fun σ8 a8 b8 c8 => ?_
  simp only [thenA]
  have b8 : σ8.r 1 = .int .i64 (G - 8) := by rw [b8]; congr 1; omega
  refine wpA_loop (CallA.hle ap) ?_
  refine roundE8 c F (G - 8) (by omega) (by omega) a8 b8 c8 _ fun σ9 a9 b9 c9 => ?_
  simp only [thenA]
  have b9 : σ9.r 1 = .int .i64 (G - 9) := by rw [b9]; congr 1; omega
  refine wpA_loop (CallA.hle ap) ?_
  refine roundE9 c F (G - 9) (by omega) (by omega) a9 b9 c9 _ fun σ10 a10 b10 c10 => ?_
  simp only [thenA]
  have b10 : σ10.r 1 = .int .i64 (G - 10) := by rw [b10]; congr 1; omega
  refine wpA_loop (CallA.hle ap) ?_
  obtain ⟨r, lo, h'⟩ := σ10
  simp only at a10 b10 c10
  subst c10
  have e19 : (hE10 c F)[19]? = some (.box [.int .i64 ((c + 2 : Nat) : Int), .int .i64 2, .int .i64 10, .nili, .ptr 18 0, .sl .clip [], .vec 21 3 0 0 7, .nilp, .sl .clip [], .ptr 31 0, .bool false]) := rfl
  have e18 : (hE10 c F)[18]? = some (.box [.ptr 31 0, .bool false, .nilp, .sl .clip []]) := rfl
  simp [bodyE, ac47, forget, noLoc, a10, e19, e18]
  refine hq _ ?_ rfl
  first | rfl | simp [a10]

end Go.Rt
