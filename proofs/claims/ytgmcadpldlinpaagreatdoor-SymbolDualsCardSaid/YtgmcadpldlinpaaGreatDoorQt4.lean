/- The plain law of SymbolExcess: the symbols that are made, and the law. -/
import Derived.Test.YtgmcadpldlinpaaGreatDoorQt3
set_option linter.unusedVariables false
noncomputable section
open Classical
namespace Go.Cn

theorem u8sym {n : Int} (h : okI .u8 n) : 0 ≤ n ∧ n ≤ 255 := by
  have e1 : IntKind.min .u8 = 0 := rfl
  have e2 : IntKind.max .u8 = 255 := rfl
  have h1 := h.1; have h2 := h.2
  omega

theorem cons_some (k : Nat) (a b c d e x m : Int) (hb : 0 ≤ b ∧ b ≤ 255) (hm : 1 ≤ m) (hm' : m ≤ 100) :
    ∃ q, Fquadformscene_constituent k a b c d e x m false = some q ∧ 1 ≤ q.2.1 ∧ q.2.1 ≤ m := by
  unfold Fquadformscene_constituent Fquadformscene_constituent.b
  obtain ⟨t, ht⟩ : ∃ t, t = (if m < (3 : Int) then m else (3 : Int)) := ⟨_, rfl⟩
  have h1 : 1 ≤ t ∧ t ≤ m ∧ t ≤ 3 := by rw [ht]; split <;> omega
  have wb : IntKind.wrap .i64 b = b := wrap_id (by omega) (by omega)
  have hmod : Int.tmod b t = b % t := Int.tmod_eq_emod_of_nonneg hb.1
  have g0 := Int.emod_nonneg b (show t ≠ 0 by omega)
  have g1 := Int.emod_lt_of_pos b (show 0 < t by omega)
  have w1 : IntKind.wrap .i64 (1 + b % t) = 1 + b % t := wrap_id (by omega) (by omega)
  simp only [← ht, wb, hmod, w1]
  rw [if_pos (by omega), if_neg (by simp)]
  exact ⟨_, rfl, by dsimp only; omega, by dsimp only; omega⟩

open Fquadformscene_Symbol__list in
theorem list_loop (k : Nat) (M : Int) (hM : 1 ≤ M) (hM' : M ≤ 90) (D : List A5u8) (hD : D.length ≤ 100) (hok : ∀ a ∈ D, ok_A5u8 a) : ∀ (r : List A5u8) (j n : Nat) (out : List Constituent) (x s : Int), r.length < j → D.drop n = r → n ≤ D.length → out.length ≤ n → 0 ≤ s → s ≤ M →
    ∃ o t, Fquadformscene_Symbol__list.l0b k j out M false x s D (D.length : Int) (n : Int) = some (.x1 o false t) ∧ o.length ≤ D.length := by
  intro r
  induction r with
  | nil =>
    intro j n out x s hj hr hn ho s0 s1
    obtain ⟨j, rfl⟩ : ∃ i, j = i + 1 := ⟨j - 1, by simp at hj; omega⟩
    have hn' := drop_nilS hr hn
    refine ⟨out, s, ?_, by omega⟩
    show l0b_b k (l0 k j) (l0b k j) _ _ _ _ _ _ _ _ = _
    unfold l0b_b
    rw [if_neg (by omega)]
  | cons b r ih =>
    intro j n out x s hj hr hn ho s0 s1
    obtain ⟨j, rfl⟩ : ∃ i, j = i + 1 := ⟨j - 1, by simp at hj; omega⟩
    obtain ⟨g1, g2, g3, g4⟩ := drop_eltS hr
    simp only [List.length_cons] at hj
    have hb := hok b (List.mem_of_getElem? g4)
    have hw2 : IntKind.wrap .i64 ((n : Int) + 1) = ((n + 1 : Nat) : Int) := by rw [wrap_id (by omega) (by omega)]; omega
    show ∃ o t, l0b_b k (l0 k j) (l0b k j) _ _ _ _ _ _ _ _ = _ ∧ _
    unfold l0b_b
    rw [if_pos (by omega), g2, Option.bind_some]
    by_cases hs : s ≥ M
    · rw [if_pos hs]; exact ⟨out, s, rfl, by omega⟩
    have hw3 : IntKind.wrap .i64 (M - s) = M - s := wrap_id (by omega) (by omega)
    obtain ⟨q, hq, q1, q2⟩ := cons_some k b.x0 b.x1 b.x2 b.x3 b.x4 (IntKind.wrap .i64 (x + (IntKind.wrap .i64 ((1 : Int) + (Int.tmod (Int.tmod (IntKind.wrap .i64 b.x0) (4 : Int)) (3 : Int)))))) (M - s) (u8sym hb.2.1) (by omega) (by omega)
    have hw4 : IntKind.wrap .i64 (s + q.2.1) = s + q.2.1 := wrap_id (by omega) (by omega)
    rw [if_neg hs, hw3, hq, Option.bind_some, if_pos (by omega), hw4, hw2]
    exact ih j (n + 1) _ _ (s + q.2.1) (by omega) g3 (by omega) (by simp; omega) (by omega) (by omega)

open Fquadformscene_Symbol__list in
theorem list_some (k : Nat) (M : Int) (hM : 1 ≤ M) (hM' : M ≤ 90) (pr : Int) (D : List A5u8) (hD : D.length ≤ 100) (hok : ∀ a ∈ D, ok_A5u8 a) (hk : D.length + 5 < k) : ∃ o, Fquadformscene_Symbol__list k pr D M false = some o ∧ o.length ≤ D.length + 1 := by
  unfold Fquadformscene_Symbol__list Fquadformscene_Symbol__list.b
  obtain ⟨j, rfl⟩ : ∃ i, k = i + 1 := ⟨k - 1, by omega⟩
  have h1 : l0 (j + 1) (j + 1) M false (-1) 0 D (D.length : Int) 0 = l0_b (j + 1) (l0 (j + 1) j) (l0b (j + 1) j) M false (-1) 0 D (D.length : Int) 0 := rfl
  rw [h1]
  unfold l0_b
  have hc : ∀ m : Int, m = 1 → ∃ q, Fquadformscene_constituent (j + 1) 0 0 0 0 0 0 m false = some q := fun m hm => by
    obtain ⟨q, hq, _⟩ := cons_some (j + 1) 0 0 0 0 0 0 m (by omega) (by omega) (by omega)
    exact ⟨q, hq⟩
  obtain ⟨q0, hq0⟩ := hc 1 rfl
  cases D with
  | nil =>
    refine ⟨[Constituent.mk q0.1 q0.2.1 q0.2.2.1 q0.2.2.2.1 q0.2.2.2.2], ?_, by simp⟩
    rw [if_neg (by simp)]
    show Fquadformscene_Symbol__list.c0 (j + 1) false 0 = _
    unfold Fquadformscene_Symbol__list.c0
    rw [if_pos rfl, hq0]
    rfl
  | cons b r =>
    have hb := hok b (by simp)
    have hw3 : IntKind.wrap .i64 (M - 0) = M := by rw [Int.sub_zero]; exact wrap_id (by omega) (by omega)
    obtain ⟨q, hq, q1, q2⟩ := cons_some (j + 1) b.x0 b.x1 b.x2 b.x3 b.x4 (IntKind.wrap .i64 (-1 + (IntKind.wrap .i64 ((1 : Int) + (Int.tmod (Int.tmod (IntKind.wrap .i64 b.x0) (4 : Int)) (3 : Int)))))) M (u8sym hb.2.1) hM (by omega)
    have hw4 : IntKind.wrap .i64 (0 + q.2.1) = q.2.1 := by rw [Int.zero_add]; exact wrap_id (by omega) (by omega)
    have hw2 : IntKind.wrap .i64 (0 + 1) = ((1 : Nat) : Int) := rfl
    rw [if_pos (by simp), show elt (b :: r) 0 = some b from rfl, Option.bind_some, if_neg (by omega), hw3, hq, Option.bind_some, hw4, hw2]
    obtain ⟨o, t, ho, hl⟩ := list_loop (j + 1) M hM hM' (b :: r) hD hok r j 1 [Constituent.mk q.1 q.2.1 q.2.2.1 q.2.2.2.1 q.2.2.2.2] (IntKind.wrap .i64 (-1 + (IntKind.wrap .i64 ((1 : Int) + (Int.tmod (Int.tmod (IntKind.wrap .i64 b.x0) (4 : Int)) (3 : Int)))))) q.2.1 (by simp at hk; omega) rfl (by simp) (by simp) (by omega) (by omega)
    rw [ho]
    show ∃ o', Fquadformscene_Symbol__list.c1 (j + 1) o false t = _ ∧ _
    unfold Fquadformscene_Symbol__list.c1
    by_cases ht : t = 0
    · rw [if_pos ht, hq0, Option.bind_some, if_pos (by omega)]
      exact ⟨_, rfl, by simp; simp at hl; omega⟩
    · rw [if_neg ht]
      exact ⟨_, rfl, by omega⟩

theorem oddPrimeS (k : Nat) (a : Int) (h0 : 0 ≤ a) : ∃ q, Fquadformscene_OddPrime k a = some q := by
  unfold Fquadformscene_OddPrime Fquadformscene_OddPrime.b
  rw [Int.tmod_eq_emod_of_nonneg h0]
  have h1 : a % 8 = 0 ∨ a % 8 = 1 ∨ a % 8 = 2 ∨ a % 8 = 3 ∨ a % 8 = 4 ∨ a % 8 = 5 ∨ a % 8 = 6 ∨ a % 8 = 7 := by omega
  rcases h1 with h | h | h | h | h | h | h | h <;> rw [h] <;> exact ⟨_, rfl⟩

theorem local_some (k : Nat) (M : Int) (hM : 1 ≤ M) (hM' : M ≤ 90) (pr : Int) (D : List A5u8) (hp : okI .u8 pr) (hD : D.length ≤ 100) (hok : ∀ a ∈ D, ok_A5u8 a) (hk : D.length + 5 < k) : ∃ q o, Fquadformscene_Symbol__Local k pr D M = some (q, o) ∧ o.length ≤ D.length + 1 := by
  unfold Fquadformscene_Symbol__Local Fquadformscene_Symbol__Local.b
  obtain ⟨q, hq⟩ := oddPrimeS k pr (u8sym hp).1
  obtain ⟨o, ho, hl⟩ := list_some k M hM hM' pr D hD hok hk
  rw [hq, Option.bind_some, ho]
  exact ⟨q, o, rfl, hl⟩

theorem either_some (k : Nat) (p : Int) (L : List Constituent) (pr : Int) (D : List A5u8) (made : Bool) (hL : L.length ≤ 20) (hp : okI .u8 pr) (hD : D.length ≤ 20) (hok : ∀ a ∈ D, ok_A5u8 a) (hk : 100 ≤ k) : ∃ q o, Fquadformlaw26_either k p L pr D made = some (q, o) ∧ o.length ≤ 21 := by
  unfold Fquadformlaw26_either Fquadformlaw26_either.b
  cases made
  · rw [if_neg (by simp)]; exact ⟨p, L, rfl, by omega⟩
  · rw [if_pos rfl]
    obtain ⟨q, o, ho, hl⟩ := local_some k 5 (by decide) (by decide) pr D hp (by omega) hok (by omega)
    rw [ho]
    exact ⟨q, o, rfl, by omega⟩

/-- The plain law. -/
theorem lawExcess (p0_Prime : Int) (p0_List : List Constituent) (p1_Prime : Int) (p1_Parts : List A5u8) (p2 : Bool) (h1 : okI .u8 p1_Prime) (h2 : okL ok_A5u8 p1_Parts) :
    Fquadformlaw26_SymbolExcess 300 p0_Prime p0_List p1_Prime p1_Parts p2 = some true := by
  unfold Fquadformlaw26_SymbolExcess Fquadformlaw26_SymbolExcess.b Fquadformlaw26_long Fquadformlaw26_long.b
  rw [Option.bind_some]
  by_cases l1 : (p0_List.length : Int) > 20
  · rw [if_pos (by simpa using l1)]; rfl
  rw [if_neg (by simpa using l1)]
  by_cases l2 : (p1_Parts.length : Int) > 20
  · rw [if_pos l2]; rfl
  rw [if_neg l2]
  obtain ⟨q, o, ho, hl⟩ := either_some 300 p0_Prime p0_List p1_Prime p1_Parts p2 (by omega) h1 (by omega) h2.2 (by decide)
  rw [ho, Option.bind_some]
  dsimp only
  rcases excess_same 300 q o (by omega) (by omega) with ⟨hs, x, e1, e2⟩ | ⟨hs, e1⟩
  · rw [e1, Option.bind_some, validR_val 300 q o (by omega) (by omega), Option.bind_some, if_pos (by simpa using hs), if_pos rfl, e2, Option.bind_some, if_pos rfl]
    rfl
  · rw [e1, Option.bind_some, validR_val 300 q o (by omega) (by omega), Option.bind_some, if_neg (by simpa using hs), if_pos rfl, if_pos rfl]
    rfl

end Go.Cn
