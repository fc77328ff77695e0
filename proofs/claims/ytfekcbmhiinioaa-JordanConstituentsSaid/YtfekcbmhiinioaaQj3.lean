/- The plain law of JordanConstituents. -/
import Derived.Test.YtfekcbmhiinioaaQj2
set_option linter.unusedVariables false
noncomputable section
open Classical
namespace Go.Cn

open Fquadformref24_SameList in
theorem same_loopJ (k : Nat) (L : List Constituent) (hL : L.length < 1000) : ∀ (r : List Constituent) (j n : Nat), r.length < j → L.drop n = r → n ≤ L.length → Fquadformref24_SameList.l0 k j L L (L.length : Int) (n : Int) = some .x0 := by
  intro r
  induction r with
  | nil =>
    intro j n hj hr hn
    obtain ⟨j, rfl⟩ : ∃ i, j = i + 1 := ⟨j - 1, by simp at hj; omega⟩
    have hn' := drop_nilJ hr hn
    show l0_b k (l0 k j) _ _ _ _ = _
    unfold l0_b
    rw [if_neg (by omega)]
  | cons b r ih =>
    intro j n hj hr hn
    obtain ⟨j, rfl⟩ : ∃ i, j = i + 1 := ⟨j - 1, by simp at hj; omega⟩
    obtain ⟨g1, g2, g3, g4⟩ := drop_eltJ hr
    show l0_b k (l0 k j) _ _ _ _ = _
    unfold l0_b
    have hw2 : IntKind.wrap .i64 ((n : Int) + 1) = ((n + 1 : Nat) : Int) := by rw [wrap_id (by omega) (by omega)]; omega
    rw [if_pos (by omega), g2, Option.bind_some, Option.bind_some, if_pos rfl, hw2]
    exact ih j (n + 1) (by simp at hj; omega) g3 (by omega)

theorem same_selfJ (k : Nat) (L : List Constituent) (hL : L.length < 1000) (hk : L.length < k) : Fquadformref24_SameList k L L = some true := by
  unfold Fquadformref24_SameList Fquadformref24_SameList.b
  rw [if_pos rfl]
  have := same_loopJ k L hL L k 0 hk rfl (by omega)
  have e0 : ((0 : Nat) : Int) = 0 := rfl
  rw [e0] at this
  rw [this]
  rfl

theorem runJ_len (k : Nat) (p : Int) : ∀ (r : List Block) (pre : List Constituent) (c : Constituent), (runJ k p pre c r).length ≤ pre.length + 1 + r.length := by
  intro r
  induction r with
  | nil => intro pre c; simp [runJ]
  | cons b r ih =>
    intro pre c
    have h1 : (stepJ k p pre c b).1.length ≤ pre.length + 1 := by
      unfold stepJ
      split
      · exact Nat.le_succ _
      · simp
    have h2 := ih (stepJ k p pre c b).1 (stepJ k p pre c b).2
    simp only [runJ, List.length_cons]
    omega

theorem runLJ_len (k : Nat) (p : Int) (L : List Block) (hL : L.length ≤ 8) : (runLJ k p L).length ≤ 20 := by
  cases L with
  | nil => simp [runLJ]
  | cons b r =>
    have := runJ_len k p r [] (upJ (newJ b.Exp) (leg k p b.A))
    simp only [runLJ, List.length_nil, List.length_cons] at this hL ⊢
    omega

theorem blockJ (k : Nat) (a b c d e p : Int) (hp : p ≠ 0) : ∃ r, Fquadformscene_Block k a b c d e p = some r := by
  unfold Fquadformscene_Block Fquadformscene_Block.b
  simp only [hp, not_false_eq_true, if_true]
  split
  · split <;> exact ⟨_, rfl⟩
  · split
    · exact ⟨_, rfl⟩
    · split <;> exact ⟨_, rfl⟩

open Fquadformscene_Blocks in
theorem blocks_loopJ (k : Nat) (p : Int) (hp : p ≠ 0) (D : List A5u8) (hD : D.length ≤ 1000) : ∀ (r : List A5u8) (j n : Nat) (out : List Block), r.length < j → D.drop n = r → n ≤ D.length → out.length ≤ 9 → ∃ o, Fquadformscene_Blocks.l0b k j out p 9 D (D.length : Int) (n : Int) = some (.x1 o) ∧ o.length ≤ 9 := by
  intro r
  induction r with
  | nil =>
    intro j n out hj hr hn ho
    obtain ⟨j, rfl⟩ : ∃ i, j = i + 1 := ⟨j - 1, by simp at hj; omega⟩
    have hn' := drop_nilJ hr hn
    refine ⟨out, ?_, ho⟩
    show l0b_b k (l0 k j) (l0b k j) _ _ _ _ _ _ = _
    unfold l0b_b
    rw [if_neg (by omega)]
  | cons b r ih =>
    intro j n out hj hr hn ho
    obtain ⟨j, rfl⟩ : ∃ i, j = i + 1 := ⟨j - 1, by simp at hj; omega⟩
    obtain ⟨g1, g2, g3, g4⟩ := drop_eltJ hr
    show ∃ o, l0b_b k (l0 k j) (l0b k j) _ _ _ _ _ _ = _ ∧ _
    unfold l0b_b
    have hw2 : IntKind.wrap .i64 ((n : Int) + 1) = ((n + 1 : Nat) : Int) := by rw [wrap_id (by omega) (by omega)]; omega
    obtain ⟨q, hq⟩ := blockJ k b.x0 b.x1 b.x2 b.x3 b.x4 p hp
    rw [if_pos (by omega), g2, Option.bind_some]
    by_cases h7 : (out.length : Int) ≥ 9
    · rw [if_pos h7]; exact ⟨out, rfl, ho⟩
    rw [if_neg h7, hq, Option.bind_some, hw2]
    have hlt : out.length < 1073741824 := by omega
    by_cases hpos : (out.length : Int) > 0
    · rw [if_pos hpos]
      have hw1 : IntKind.wrap .i64 ((out.length : Int) - 1) = ((out.length - 1 : Nat) : Int) := by rw [wrap_id (by omega) (by omega)]; omega
      have he : out[out.length - 1]? = some out[out.length - 1] := List.getElem?_eq_getElem (by omega)
      rw [hw1, elt_nat, he, Option.bind_some, if_pos hlt]
      exact ih j (n + 1) _ (by simp at hj; omega) g3 (by omega) (by simp; omega)
    · rw [if_neg hpos, if_pos hlt]
      exact ih j (n + 1) _ (by simp at hj; omega) g3 (by omega) (by simp; omega)

open Fquadformscene_Blocks in
theorem blocksJ (k : Nat) (p : Int) (hp : p ≠ 0) (D : List A5u8) (hD : D.length ≤ 1000) (hk : D.length < k) : ∃ o, Fquadformscene_Blocks k D p 9 = some o ∧ o.length ≤ 9 := by
  unfold Fquadformscene_Blocks Fquadformscene_Blocks.b
  obtain ⟨j, rfl⟩ : ∃ i, k = i + 1 := ⟨k - 1, by omega⟩
  have h1 : l0 (j + 1) (j + 1) p 9 D (D.length : Int) 0 = l0_b (j + 1) (l0 (j + 1) j) (l0b (j + 1) j) p 9 D (D.length : Int) 0 := rfl
  rw [h1]
  unfold l0_b
  cases D with
  | nil => exact ⟨[], rfl, by simp⟩
  | cons b r =>
    obtain ⟨q, hq⟩ := blockJ (j + 1) b.x0 b.x1 b.x2 b.x3 b.x4 p hp
    have hw2 : IntKind.wrap .i64 (0 + 1) = ((1 : Nat) : Int) := rfl
    rw [if_pos (by simp), show elt (b :: r) 0 = some b from rfl, Option.bind_some, if_neg (by decide), hq, Option.bind_some, hw2]
    obtain ⟨o, ho, hl⟩ := blocks_loopJ (j + 1) p hp (b :: r) hD r j 1 _ (by simp at hk; omega) rfl (by simp) (show [Block.mk q.1 q.2.1 q.2.2.1 q.2.2.2.1 q.2.2.2.2].length ≤ 9 by simp)
    rw [ho]
    exact ⟨o, rfl, hl⟩

theorem law_c0J (k : Nat) (p : Int) (v1 : List (List Int)) (L : List Block) (hk : L.length + 150 ≤ k) : Fquadformlaw24_JordanConstituents.c0 k p v1 L = some true := by
  unfold Fquadformlaw24_JordanConstituents.c0
  rw [progJ k (by omega), refJ k p v1 L hk, Option.bind_some, Option.bind_some, if_pos rfl]
  have h3 : Fquadformref24_SameList k (if meantJ p L then (runLJ k p L, true) else ([], false)).1 (if meantJ p L then (runLJ k p L, true) else ([], false)).1 = some true := by
    by_cases hm : meantJ p L
    · rw [if_pos hm]
      have := runLJ_len k p L hm.2.1
      exact same_selfJ k _ (by dsimp only; omega) (by dsimp only; omega)
    · rw [if_neg hm]; exact same_selfJ k _ (by simp) (by simp; omega)
  rw [h3, Option.bind_some, if_pos rfl]
  rfl

theorem oddPrime_some (k : Nat) (a : Int) (h0 : 0 ≤ a) : ∃ q, Fquadformscene_OddPrime k a = some q ∧ q ≠ 0 := by
  unfold Fquadformscene_OddPrime Fquadformscene_OddPrime.b
  rw [Int.tmod_eq_emod_of_nonneg h0]
  have h1 : a % 8 = 0 ∨ a % 8 = 1 ∨ a % 8 = 2 ∨ a % 8 = 3 ∨ a % 8 = 4 ∨ a % 8 = 5 ∨ a % 8 = 6 ∨ a % 8 = 7 := by omega
  rcases h1 with h | h | h | h | h | h | h | h <;> rw [h]
  · exact ⟨3, rfl, by decide⟩
  · exact ⟨5, rfl, by decide⟩
  · exact ⟨7, rfl, by decide⟩
  · exact ⟨11, rfl, by decide⟩
  · exact ⟨13, rfl, by decide⟩
  · exact ⟨17, rfl, by decide⟩
  · exact ⟨19, rfl, by decide⟩
  · exact ⟨23, rfl, by decide⟩

/-- The plain law. -/
theorem lawJ (p0_Prime : Int) (p0_T : List (List Int)) (p0_Blocks : List Block) (p1 : List A5u8) (p2 : Int) (p3 : Bool) (h2 : 0 ≤ p2) :
    Fquadformlaw24_JordanConstituents 300 p0_Prime p0_T p0_Blocks p1 p2 p3 = some true := by
  unfold Fquadformlaw24_JordanConstituents Fquadformlaw24_JordanConstituents.b
  by_cases l1 : (p0_Blocks.length : Int) > 20
  · rw [if_pos l1]; rfl
  rw [if_neg l1]
  by_cases l2 : (p1.length : Int) > 20
  · rw [if_pos l2]; rfl
  rw [if_neg l2]
  cases p3
  · rw [if_neg (by simp)]
    exact law_c0J 300 _ _ _ (by omega)
  · rw [if_pos rfl]
    obtain ⟨q, hq, hq0⟩ := oddPrime_some 300 p2 h2
    obtain ⟨o, ho, hl⟩ := blocksJ 300 q hq0 p1 (by omega) (by omega)
    rw [hq, Option.bind_some, ho, Option.bind_some]
    exact law_c0J 300 q p0_T o (by omega)

end Go.Cn
