/- The law LexerRemarks on the abstract machine. -/
import Derived.Test.YtjfflpknmhflfaaDoorLtLg
namespace Go.Lt
open Go.Am Go.Proofs
set_option maxRecDepth 100000

def noNl (b : Bs) : Bs := b.filter fun c => c.toNat != 10
def REND : Bs := [10, 121, 32, 45, 45, 32, 62, 32, 122]

theorem noNl_all (b : Bs) : ∀ x ∈ noNl b, (x.toNat != 10) = true := fun x hx => (List.mem_filter.1 hx).2

theorem lex_rem (b : Bs) (f : Nat) (hf : 9 ≤ f) : lexF f 0 ([120, 32, 45, 45] ++ noNl b ++ REND) = ([⟨1, 0, [120], 0⟩, ⟨1, 5 + (noNl b).length, [121], 0⟩], none) := by
  obtain ⟨f, rfl⟩ : ∃ g, f = g + 9 := ⟨f - 9, by omega⟩
  have hn := noNl_all b
  generalize noNl b = F at hn ⊢
  have e1 : [120, 32, 45, 45] ++ F ++ REND = [120] ++ 32 :: ([45, 45] ++ F ++ REND) := by simp
  have w1 : wordT ([120] ++ 32 :: ([45, 45] ++ F ++ REND)) = some (1, [120], 0) := by
    rw [word_name (by rfl) (by decide) (by rfl)]
    kernel_rfl
  have w2 : wordT ([121] ++ 32 :: [45, 45, 32, 62, 32, 122]) = some (1, [121], 0) := by
    rw [word_name (by rfl) (by decide) (by rfl)]
    kernel_rfl
  have b1 : blankN ([120] ++ 32 :: ([45, 45] ++ F ++ REND)) = 0 := rfl
  have b2 : blankN (32 :: ([45, 45] ++ F ++ REND)) = 1 := rfl
  have b3 : blankN ([45, 45] ++ F ++ REND) = F.length + 2 := by
    have := whl_app (p := fun d => d.toNat != 10) (d := 10) (by rfl) ([45, 45] ++ F) [121, 32, 45, 45, 32, 62, 32, 122] (fun x hx => by
      rcases List.mem_append.1 hx with hx | hx
      · have : x = 45 := by simpa using hx
        subst this
        rfl
      · exact hn x hx)
    have e : [45, 45] ++ F ++ REND = 45 :: 45 :: (F ++ REND) := rfl
    rw [e]
    have e' : [45, 45] ++ F ++ 10 :: [121, 32, 45, 45, 32, 62, 32, 122] = 45 :: 45 :: (F ++ REND) := rfl
    rw [e'] at this
    have hb : blankN (45 :: 45 :: (F ++ REND)) = whl (fun d => d.toNat != 10) (45 :: 45 :: (F ++ REND)) := rfl
    rw [hb, this]
    simp
  have d3 : ([45, 45] ++ F ++ REND).drop (F.length + 2) = REND := by
    have : ([45, 45] ++ F).length = F.length + 2 := by simp
    rw [← this]; simp
  have b4 : blankN REND = 1 := rfl
  have b5 : blankN ([121] ++ 32 :: [45, 45, 32, 62, 32, 122]) = 0 := rfl
  have b6 : blankN [32, 45, 45, 32, 62, 32, 122] = 1 := rfl
  have b7 : blankN [45, 45, 32, 62, 32, 122] = 6 := rfl
  rw [e1, lex_word b1 w1]
  rw [show (List.drop ([120] : Bs).length ([120] ++ 32 :: ([45, 45] ++ F ++ REND))) = 32 :: ([45, 45] ++ F ++ REND) from rfl]
  rw [lex_blank (by rw [b2]; decide), b2]
  rw [show (List.drop 1 (32 :: ([45, 45] ++ F ++ REND))) = [45, 45] ++ F ++ REND from rfl]
  rw [lex_blank (by rw [b3]; omega), b3, d3]
  rw [lex_blank (by rw [b4]; decide), b4]
  rw [show List.drop 1 REND = [121] ++ 32 :: [45, 45, 32, 62, 32, 122] from rfl, lex_word b5 w2]
  rw [show List.drop ([121] : Bs).length (([121] : Bs) ++ 32 :: [45, 45, 32, 62, 32, 122]) = [32, 45, 45, 32, 62, 32, 122] from rfl]
  rw [lex_blank (by rw [b6]; decide), b6]
  rw [show (List.drop 1 ([32, 45, 45, 32, 62, 32, 122] : Bs)) = [45, 45, 32, 62, 32, 122] from rfl]
  rw [lex_blank (by rw [b7]; decide), b7]
  rw [show (List.drop 6 ([45, 45, 32, 62, 32, 122] : Bs)) = [] from rfl, lex_nil]
  simp
  omega

theorem lex_rem2 : lexF 10 0 [97, 32, 45, 45, 62, 98, 10, 45, 62] = ([⟨1, 0, [97], 0⟩, ⟨6, 7, [45, 62], 0⟩], none) := by kernel_rfl

theorem lexerRemarks (b : Bs) : CallA ap 7 0 [] [.sl .frozen (bV b)] [] fun v _ => v = .bool true := by
  refine CallA.code (af := ac7) rfl (Nat.le_of_ble_eq_true rfl) ?_
  simp [ac7]
  refine first9 (by simp) ?_
  by_cases hl : (60 : Int) < b.length
  · simp [hl, bV_len]
  simp [hl, bV_len]
  have e0 : [V.int .u8 120, .int .u8 32, .int .u8 45, .int .u8 45] = bV [120, 32, 45, 45] := rfl
  obtain ⟨I, hI⟩ : ∃ I : Nat → St → Prop, ∀ n s, I n s ↔ (∃ (i : Nat), i + n = b.length ∧ s.r 0 = .sl .frozen (bV b) ∧ s.r 3 = .bool true ∧ s.r 5 = .int .i64 i ∧
    ((noNl (b.take i) = [] ∧ s.r 4 = .sl .clip (bV [120, 32, 45, 45]) ∧ s.h = []) ∨ (noNl (b.take i) ≠ [] ∧ s.r 4 = .sl (.fam 0) (bV ([120, 32, 45, 45] ++ noNl (b.take i))) ∧ s.h = [.fam (4 + (noNl (b.take i)).length) 1]))) := ⟨_, fun _ _ => Iff.rfl⟩
  refine loop_ind (CallA.hle ap) I ?_ (n := b.length) ((hI _ _).2 ⟨0, by simp, by simp, by simp, by simp, .inl ⟨rfl, by simp [e0], rfl⟩⟩)
  rintro n ⟨r, lo, h'⟩ hst
  obtain ⟨i, hin, r0, r3, r5, hor⟩ := (hI _ _).1 hst
  simp only at r0 r3 r5 hor
  by_cases hi : i < b.length
  · have hw : IntKind.wrap .i64 ((i : Int) + 1) = ((i + 1 : Nat) : Int) := by rw [wrapn (by omega) (by omega)]; omega
    have hne : ((b[i].toNat : Int) != 10) = (b[i].toNat != 10) := congrArg (! ·) (eqn b[i] 10)
    have hnx : noNl (b.take (i + 1)) = noNl (b.take i) ++ if b[i].toNat != 10 then [b[i]] else [] := by
      show List.filter _ (List.take (i + 1) b) = _
      rw [List.take_succ_eq_append_getElem hi, List.filter_append]
      congr 1
      by_cases hc : (b[i].toNat != 10) = true
      · simp [hc]
      · simp [hc]
    have hflen : (noNl (b.take i)).length ≤ 60 := Nat.le_trans (List.length_filter_le _ _) (by simp; omega)
    generalize noNl (b.take i) = F at hor hnx hflen
    simp [forget, noLoc, r0, r5, bV_len, bV_at, hi, hne]
    cases hc : (b[i].toNat != 10)
    · rw [hc] at hnx
      simp [r5, hw]
      refine ⟨n - 1, by omega, (hI _ _).2 ⟨i + 1, by omega, by simp [r0], by simp [r3], by simp, ?_⟩⟩
      rw [hnx]
      rcases hor with ⟨h1, h2, h3⟩ | ⟨h1, h2, h3⟩
      · exact .inl ⟨by simp [h1], by simp [h2], h3⟩
      · exact .inr ⟨by simp [h1], by simp [h2], by simpa using h3⟩
    · rw [hc] at hnx
      have e1 : ∀ s : Bs, bV s ++ [V.int .u8 b[i].toNat] = bV (s ++ [b[i]]) := fun s => by simp [bV]
      have hcl : ∀ s : Bs, ∀ v, v ∈ bV s ∨ v = V.int .u8 b[i].toNat → v.cells.length = 1 := fun s v hv => by
        rcases hv with hv | rfl
        · exact bV_cells s v hv
        · rfl
      rcases hor with ⟨h1, h2, rfl⟩ | ⟨h1, h2, rfl⟩
      · simp [r0, r5, hi, bV_at, bV_len, h2, hw]
        refine ⟨hcl _, by simp [lim], ?_⟩
        refine ⟨n - 1, by omega, (hI _ _).2 ⟨i + 1, by omega, by simp [r0], by simp [r3], by simp, .inr ⟨?_, ?_, ?_⟩⟩⟩
        · rw [hnx]; simp
        · rw [hnx, h1]; simp [e1]
        · rw [hnx, h1]; simp
      · have hlm : F.length + 1 + 1 + 1 + 1 + 1 ≤ lim := by simp only [lim]; omega
        simp [r0, r5, hi, bV_at, bV_len, h2, hw, Nat.add_comm 4]
        refine ⟨hcl _, hlm, ?_⟩
        refine ⟨n - 1, by omega, (hI _ _).2 ⟨i + 1, by omega, by simp [r0], by simp [r3], by simp, .inr ⟨?_, ?_, ?_⟩⟩⟩
        · rw [hnx]; simp
        · rw [hnx]; simp [e1]
        · rw [hnx]; simp; omega
  · have hib : i = b.length := by omega
    rw [hib, List.take_of_length_le (Nat.le_refl _)] at hor
    have hflen : (noNl b).length ≤ 60 := Nat.le_trans (List.length_filter_le _ _) (by omega)
    have eR : bV REND = [V.int .u8 10, .int .u8 121, .int .u8 32, .int .u8 45, .int .u8 45, .int .u8 32, .int .u8 62, .int .u8 32, .int .u8 122] := rfl
    have hcl : ∀ s : Bs, ∀ v ∈ bV s, v.cells.length = 1 := fun s => bV_cells s
    have hlb : ([120, 32, 45, 45] ++ noNl b ++ REND).length ≤ 20000 := by simp [REND]; omega
    have hlx := lex_rem b (([120, 32, 45, 45] ++ noNl b ++ REND).length + 1) (by simp [REND])
    have bapp : ∀ s u : Bs, bV s ++ bV u = bV (s ++ u) := fun s u => by simp [bV]
    have e9 : [V.int .u8 97, .int .u8 32, .int .u8 45, .int .u8 45, .int .u8 62, .int .u8 98, .int .u8 10, .int .u8 45, .int .u8 62] = bV [97, 32, 45, 45, 62, 98, 10, 45, 62] := rfl
    rcases hor with ⟨h1, h2, rfl⟩ | ⟨h1, h2, rfl⟩
    case' inl =>
      rw [h1, List.append_nil] at hlx hlb
      simp [forget, noLoc, r0, r5, bV_len, hi, h2]
      rw [← eR, bapp, bV_dem]
      refine ⟨fun v hv => ?_, by simp [lim], ?_⟩
      · rcases hv with hv | hv
        · exact hcl _ v hv
        · rcases hv with rfl | rfl | rfl | rfl | rfl | rfl | rfl | rfl | rfl <;> rfl
    case' inr =>
      have hlm : (noNl b).length + 1 + 1 + 1 + 1 + 9 ≤ lim := by simp only [lim]; omega
      have h4 : 4 + (noNl b).length = (noNl b).length + 1 + 1 + 1 + 1 := by omega
      simp [forget, noLoc, r0, r5, bV_len, hi, h2, h4]
      rw [← eR, bapp, bV_dem]
      refine ⟨fun v hv => ?_, hlm, ?_⟩
      · rcases hv with hv | hv
        · exact hcl _ v hv
        · rcases hv with rfl | rfl | rfl | rfl | rfl | rfl | rfl | rfl | rfl <;> rfl
    all_goals
      refine split10 hlb (by simp) (fun ts tl e => ?_) fun ts at_ tl q e _ _ => ?_
      · have e := congrArg Prod.fst (hlx.symm.trans e)
        simp only at e
        subst e
        simp
        rw [e9]
        refine split10 (b := [97, 32, 45, 45, 62, 98, 10, 45, 62]) (by decide) (by simp) (fun ts tl e => ?_) fun ts at_ tl q e _ _ => ?_
        · have e := congrArg Prod.fst (lex_rem2.symm.trans e)
          simp only at e
          subst e
          simp [tkV, tokV, r3]
        · have e := congrArg Prod.snd (lex_rem2.symm.trans e)
          simp at e
      · have e := congrArg Prod.snd (hlx.symm.trans e)
        simp at e

end Go.Lt
