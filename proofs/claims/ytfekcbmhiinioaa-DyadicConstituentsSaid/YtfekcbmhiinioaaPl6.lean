/- The plain law of DyadicConstituents. -/
import Derived.Test.YtfekcbmhiinioaaPl5
set_option linter.unusedVariables false
noncomputable section
namespace Go.Cn

open Fquadformref24_SameList in
theorem same_loop (k : Nat) (L : List Constituent) (hL : L.length < 1000) : ∀ (r : List Constituent) (j n : Nat), r.length < j → L.drop n = r → n ≤ L.length → Fquadformref24_SameList.l0 k j L L (L.length : Int) (n : Int) = some .x0 := by
  intro r
  induction r with
  | nil =>
    intro j n hj hr hn
    obtain ⟨j, rfl⟩ : ∃ i, j = i + 1 := ⟨j - 1, by simp at hj; omega⟩
    have hn' := drop_nil hr hn
    show l0_b k (l0 k j) _ _ _ _ = _
    unfold l0_b
    rw [if_neg (by omega)]
  | cons b r ih =>
    intro j n hj hr hn
    obtain ⟨j, rfl⟩ : ∃ i, j = i + 1 := ⟨j - 1, by simp at hj; omega⟩
    obtain ⟨g1, g2, g3, g4⟩ := drop_elt hr
    show l0_b k (l0 k j) _ _ _ _ = _
    unfold l0_b
    have hw2 : IntKind.wrap .i64 ((n : Int) + 1) = ((n + 1 : Nat) : Int) := by rw [wrap_id (by omega) (by omega)]; omega
    rw [if_pos (by omega), g2, Option.bind_some, Option.bind_some, if_pos rfl, hw2]
    exact ih j (n + 1) (by simp at hj; omega) g3 (by omega)

theorem same_self (k : Nat) (L : List Constituent) (hL : L.length < 1000) (hk : L.length < k) : Fquadformref24_SameList k L L = some true := by
  unfold Fquadformref24_SameList Fquadformref24_SameList.b
  rw [if_pos rfl]
  have := same_loop k L hL L k 0 hk rfl (by omega)
  have e0 : ((0 : Nat) : Int) = 0 := rfl
  rw [e0] at this
  rw [this]
  rfl

theorem same_nil (k : Nat) (hk : 0 < k) : Fquadformref24_SameList k [] [] = some true := same_self k [] (by simp) (by simpa using hk)

open Fdyadic_Even in
theorem even_loop (k : Nat) (ok : Bool) (L : List Constituent) (hL : L.length < 1000) : ∀ (r : List Constituent) (j n : Nat), r.length < j → L.drop n = r → n ≤ L.length →
    Fdyadic_Even.l0 k j ok L (L.length : Int) (n : Int) = if r.any (fun c => decide (c.Exp = 0) && c.Odd) then some (.ret false) else some (.x0 ok) := by
  intro r
  induction r with
  | nil =>
    intro j n hj hr hn
    obtain ⟨j, rfl⟩ : ∃ i, j = i + 1 := ⟨j - 1, by simp at hj; omega⟩
    have hn' := drop_nil hr hn
    show l0_b k (l0 k j) _ _ _ _ = _
    unfold l0_b
    rw [if_neg (by omega)]
    rfl
  | cons b r ih =>
    intro j n hj hr hn
    obtain ⟨j, rfl⟩ : ∃ i, j = i + 1 := ⟨j - 1, by simp at hj; omega⟩
    obtain ⟨g1, g2, g3, g4⟩ := drop_elt hr
    show l0_b k (l0 k j) _ _ _ _ = _
    unfold l0_b
    have hw2 : IntKind.wrap .i64 ((n : Int) + 1) = ((n + 1 : Nat) : Int) := by rw [wrap_id (by omega) (by omega)]; omega
    have key := ih j (n + 1) (by simp at hj; omega) g3 (by omega)
    rw [if_pos (by omega), g2, Option.bind_some, hw2, key]
    by_cases h1 : b.Exp = 0
    · by_cases h2 : b.Odd = true
      · simp [h1, h2]
      · simp [h1, h2]
    · simp [h1]

/-- the first's exponent is the least -/
def Low (l : List (Constituent × Int)) : Prop := ∃ h t, l = h :: t ∧ ∀ x ∈ t, h.1.Exp < x.1.Exp

theorem low_run : ∀ (r : List Block) (pre : List (Constituent × Int)) (p : Constituent × Int), valid p.1.Exp r → (pre = [] ∨ ∃ h t, pre = h :: t ∧ (∀ x ∈ t, h.1.Exp < x.1.Exp) ∧ h.1.Exp < p.1.Exp) → Low (runA pre p r) := by
  intro r
  induction r with
  | nil =>
    intro pre p hv h
    rcases h with rfl | ⟨h, t, rfl, h1, h2⟩
    · exact ⟨p, [], rfl, fun x hx => absurd hx (by simp)⟩
    · refine ⟨h, t ++ [p], rfl, fun x hx => ?_⟩
      rcases List.mem_append.1 hx with hx | hx
      · exact h1 x hx
      · simp at hx; subst hx; exact h2
  | cons b r ih =>
    intro pre p hv h
    simp only [valid] at hv
    simp only [runA]
    unfold stepA
    split
    · next e =>
      refine ih _ _ (by rw [show (upd p b).1.Exp = p.1.Exp from rfl, ← e]; exact hv.2.2.2) ?_
      exact h
    · next e =>
      refine ih _ _ (by rw [show (upd (new b.Exp) b).1.Exp = b.Exp from rfl]; exact hv.2.2.2) (.inr ?_)
      rcases h with rfl | ⟨h, t, rfl, h1, h2⟩
      · exact ⟨p, [], rfl, fun x hx => absurd hx (by simp), show p.1.Exp < b.Exp by omega⟩
      · refine ⟨h, t ++ [p], rfl, fun x hx => ?_, show h.1.Exp < b.Exp by omega⟩
        rcases List.mem_append.1 hx with hx | hx
        · exact h1 x hx
        · simp at hx; subst hx; exact h2

theorem runL_low {b : Block} {r : List Block} (h : valid 0 (b :: r)) : Low (runL (b :: r)) := by
  simp only [valid] at h
  exact low_run r [] _ h.2.2.2 (.inl rfl)

theorem even_same (k : Nat) (v0 : Int) (v1 : List (List Int)) (L : List Block) (hk : L.length + 20 ≤ k) : ∃ b, Fdyadic_Even k v0 v1 L = some b ∧ Fquadformref24_Even k v0 v1 L = some b := by
  unfold Fdyadic_Even Fdyadic_Even.b Fquadformref24_Even Fquadformref24_Even.b
  rw [prog_val k (by omega), ref_val k v0 v1 L hk]
  simp only [Option.bind_some]
  by_cases hm : meant v0 L
  case neg =>
    rw [if_neg hm]
    have := even_loop k false [] (by simp) [] k 0 (by simp; omega) rfl (by simp)
    refine ⟨false, ?_, rfl⟩
    simp only [List.length_nil] at this ⊢
    have e0 : ((0 : Nat) : Int) = 0 := rfl
    rw [e0] at this ⊢
    rw [this]
    rfl
  rw [if_pos hm]
  obtain ⟨hg, hlen⟩ := runL_good hm.2.2.2.1 hm.2.1
  have hl : (List.map (·.1) (runL L)).length ≤ 10 := by rw [List.length_map]; exact hlen
  have he := even_loop k true (List.map (·.1) (runL L)) (by omega) _ k 0 (by rw [List.drop_zero]; omega) rfl (by omega)
  have e0 : ((0 : Nat) : Int) = 0 := rfl
  rw [e0] at he
  dsimp only at he ⊢
  rw [he, if_pos rfl]
  have hlow : Low (runL L) := by
    cases L with
    | nil => exact absurd hm.2.2.1 (by simp)
    | cons b r => exact runL_low hm.2.2.2.1
  obtain ⟨h, t, hr, ht⟩ := hlow
  rw [hr] at hg ⊢
  have hh := (hg h (by simp)).exp0
  have ht0 : (t.map (·.1)).any (fun c => decide (c.Exp = 0) && c.Odd) = false := by
    rw [List.any_eq_false]
    intro c hc
    obtain ⟨x, hx, rfl⟩ := List.mem_map.1 hc
    have := ht x hx
    simp; intro h0; omega
  simp only [List.drop_zero, List.map_cons, List.any_cons, ht0, Bool.or_false]
  have e1 : elt (h.1 :: t.map (·.1)) 0 = some h.1 := rfl
  rw [e1, Option.bind_some]
  by_cases h0 : h.1.Exp = 0
  · cases ho : h.1.Odd
    · refine ⟨true, ?_, ?_⟩
      · simp [h0]; rfl
      · simp [h0]
    · refine ⟨false, ?_, ?_⟩
      · simp [h0]
      · simp [h0]
  · refine ⟨true, ?_, ?_⟩
    · simp [h0]; rfl
    · rw [if_pos (by omega)]

theorem block_some (k : Nat) (a b c d e : Int) : ∃ r, Fquadformscene_Block k a b c d e 2 = some r := by
  unfold Fquadformscene_Block Fquadformscene_Block.b
  simp only [show ¬ ((2 : Int) = 0) by decide, not_false_eq_true, if_true]
  split
  · split <;> exact ⟨_, rfl⟩
  · exact ⟨_, rfl⟩

open Fquadformscene_Blocks in
theorem blocks_loop (k : Nat) (D : List A5u8) (hD : D.length ≤ 1000) : ∀ (r : List A5u8) (j n : Nat) (out : List Block), r.length < j → D.drop n = r → n ≤ D.length → out.length ≤ 7 → ∃ o, Fquadformscene_Blocks.l0b k j out 2 7 D (D.length : Int) (n : Int) = some (.x1 o) ∧ o.length ≤ 7 := by
  intro r
  induction r with
  | nil =>
    intro j n out hj hr hn ho
    obtain ⟨j, rfl⟩ : ∃ i, j = i + 1 := ⟨j - 1, by simp at hj; omega⟩
    have hn' := drop_nil hr hn
    refine ⟨out, ?_, ho⟩
    show l0b_b k (l0 k j) (l0b k j) _ _ _ _ _ _ = _
    unfold l0b_b
    rw [if_neg (by omega)]
  | cons b r ih =>
    intro j n out hj hr hn ho
    obtain ⟨j, rfl⟩ : ∃ i, j = i + 1 := ⟨j - 1, by simp at hj; omega⟩
    obtain ⟨g1, g2, g3, g4⟩ := drop_elt hr
    show ∃ o, l0b_b k (l0 k j) (l0b k j) _ _ _ _ _ _ = _ ∧ _
    unfold l0b_b
    have hw2 : IntKind.wrap .i64 ((n : Int) + 1) = ((n + 1 : Nat) : Int) := by rw [wrap_id (by omega) (by omega)]; omega
    obtain ⟨q, hq⟩ := block_some k b.x0 b.x1 b.x2 b.x3 b.x4
    rw [if_pos (by omega), g2, Option.bind_some]
    by_cases h7 : (out.length : Int) ≥ 7
    · rw [if_pos h7]; exact ⟨out, rfl, ho⟩
    rw [if_neg h7, hq, Option.bind_some, hw2]
    have hlt : out.length < 1073741824 := by omega
    by_cases hp : (out.length : Int) > 0
    · rw [if_pos hp]
      have hw1 : IntKind.wrap .i64 ((out.length : Int) - 1) = ((out.length - 1 : Nat) : Int) := by rw [wrap_id (by omega) (by omega)]; omega
      have he : out[out.length - 1]? = some out[out.length - 1] := List.getElem?_eq_getElem (by omega)
      rw [hw1, elt_nat, he, Option.bind_some, if_pos hlt]
      exact ih j (n + 1) _ (by simp at hj; omega) g3 (by omega) (by simp; omega)
    · rw [if_neg hp, if_pos hlt]
      exact ih j (n + 1) _ (by simp at hj; omega) g3 (by omega) (by simp; omega)

open Fquadformscene_Blocks in
theorem blocks_some (k : Nat) (D : List A5u8) (hD : D.length ≤ 1000) (hk : D.length < k) : ∃ o, Fquadformscene_Blocks k D 2 7 = some o ∧ o.length ≤ 7 := by
  unfold Fquadformscene_Blocks Fquadformscene_Blocks.b
  obtain ⟨j, rfl⟩ : ∃ i, k = i + 1 := ⟨k - 1, by omega⟩
  have h1 : l0 (j + 1) (j + 1) 2 7 D (D.length : Int) 0 = l0_b (j + 1) (l0 (j + 1) j) (l0b (j + 1) j) 2 7 D (D.length : Int) 0 := rfl
  rw [h1]
  unfold l0_b
  cases D with
  | nil => exact ⟨[], rfl, by simp⟩
  | cons b r =>
    obtain ⟨q, hq⟩ := block_some (j + 1) b.x0 b.x1 b.x2 b.x3 b.x4
    have hw2 : IntKind.wrap .i64 (0 + 1) = ((1 : Nat) : Int) := rfl
    rw [if_pos (by simp), show elt (b :: r) 0 = some b from rfl, Option.bind_some, if_neg (by decide), hq, Option.bind_some, hw2]
    obtain ⟨o, ho, hl⟩ := blocks_loop (j + 1) (b :: r) hD r j 1 _ (by simp at hk; omega) rfl (by simp) (show [Block.mk q.1 q.2.1 q.2.2.1 q.2.2.2.1 q.2.2.2.2].length ≤ 7 by simp)
    rw [ho]
    exact ⟨o, rfl, hl⟩

theorem law_c0 (k : Nat) (v0 : Int) (v1 : List (List Int)) (L : List Block) (hk : L.length + 20 ≤ k) : Fquadformlaw25_DyadicConstituents.c0 k v0 v1 L = some true := by
  unfold Fquadformlaw25_DyadicConstituents.c0
  obtain ⟨b, h1, h2⟩ := even_same k v0 v1 L hk
  rw [prog_val k (by omega), ref_val k v0 v1 L hk, Option.bind_some, Option.bind_some, if_pos rfl]
  have h3 : Fquadformref24_SameList k (if meant v0 L then ((runL L).map (·.1), true) else ([], false)).1 (if meant v0 L then ((runL L).map (·.1), true) else ([], false)).1 = some true := by
    by_cases hm : meant v0 L
    · rw [if_pos hm]
      have := (runL_good hm.2.2.2.1 hm.2.1).2
      exact same_self k _ (by simp; omega) (by simp; omega)
    · rw [if_neg hm]; exact same_nil k (by omega)
  rw [h3, Option.bind_some, if_pos rfl, h1, h2, Option.bind_some, Option.bind_some, if_pos rfl]
  rfl

/-- The plain law. -/
theorem law (p0_Prime : Int) (p0_T : List (List Int)) (p0_Blocks : List Block) (p1 : List A5u8) (p2 : Bool) :
    Fquadformlaw25_DyadicConstituents 100 p0_Prime p0_T p0_Blocks p1 p2 = some true := by
  unfold Fquadformlaw25_DyadicConstituents Fquadformlaw25_DyadicConstituents.b
  by_cases h1 : (p0_Blocks.length : Int) > 20
  · rw [if_pos h1]; rfl
  rw [if_neg h1]
  by_cases h2 : (p1.length : Int) > 20
  · rw [if_pos h2]; rfl
  rw [if_neg h2]
  cases p2
  · rw [if_neg (by simp)]
    exact law_c0 100 _ _ _ (by omega)
  · rw [if_pos rfl]
    unfold Fquadformlaw25_blocks Fquadformlaw25_blocks.b
    obtain ⟨o, ho, hl⟩ := blocks_some 100 p1 (by omega) (by omega)
    rw [ho]
    exact law_c0 100 2 [] o (by omega)

end Go.Cn
