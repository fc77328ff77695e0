/- The plain law of SymbolExcess. -/
import Derived.Test.YtgmcadpldlinpaaGreatDoorQt2
import Derived.Test.YtgmcadpldlinpaaGreatDoorCk5
set_option linter.unusedVariables false
noncomputable section
open Classical
namespace Go.Cn

theorem mod8S (k : Nat) (p : Int) (h : 0 ≤ p) : Fquadformref22_Mod k p 8 = some (p % 8) := by
  unfold Fquadformref22_Mod Fquadformref22_Mod.b
  rw [if_pos (by decide), Int.tmod_eq_emod_of_nonneg h, if_neg (by omega)]

theorem pow_one (k : Nat) : ∀ (i : Nat) (e r : Int) (j : Nat), 0 ≤ e → e < 2 ^ i → i < j → i < 60 → 0 ≤ r → r < 8 → Fquadformref22_ModPow.l0 k j 1 e 8 r = some r := by
  intro i
  induction i with
  | zero =>
    intro e r j e0 ei hij hi r0 r8
    obtain ⟨j, rfl⟩ : ∃ m, j = m + 1 := ⟨j - 1, by omega⟩
    have : e = 0 := by
      have : (2 : Int) ^ 0 = 1 := rfl
      omega
    subst this
    show Fquadformref22_ModPow.l0_b k (Fquadformref22_ModPow.l0 k j) _ _ _ _ = _
    unfold Fquadformref22_ModPow.l0_b
    rw [if_neg (by omega)]
  | succ i ih =>
    intro e r j e0 ei hij hi r0 r8
    obtain ⟨j, rfl⟩ : ∃ m, j = m + 1 := ⟨j - 1, by omega⟩
    show Fquadformref22_ModPow.l0_b k (Fquadformref22_ModPow.l0 k j) _ _ _ _ = _
    unfold Fquadformref22_ModPow.l0_b Fquadformref22_ModPow.c0
    by_cases he : e > 0
    case neg => rw [if_neg he]
    have hpow : (2 : Int) ^ (i + 1) = 2 ^ i * 2 := rfl
    have hpow60 : (2 : Int) ^ (i + 1) ≤ 2 ^ 60 := by
      have : (2 : Nat) ^ (i + 1) ≤ 2 ^ 60 := Nat.pow_le_pow_right (by decide) (by omega)
      have h' : (((2 : Nat) ^ (i + 1) : Nat) : Int) ≤ ((2 ^ 60 : Nat) : Int) := Int.ofNat_le.2 this
      simpa using h'
    have h60 : (2 : Int) ^ 60 = 1152921504606846976 := by decide
    have hw : IntKind.wrap .i64 (Int.tdiv e 2) = e / 2 := by rw [Int.tdiv_eq_ediv_of_nonneg e0]; exact wrap_id (by omega) (by omega)
    have h11 : Int.tmod (IntKind.wrap .i64 (1 * 1)) 8 = 1 := by decide
    have hr : Int.tmod (IntKind.wrap .i64 (r * 1)) 8 = r := by rw [Int.mul_one, wrap_id (by omega) (by omega), Int.tmod_eq_emod_of_nonneg r0]; omega
    rw [if_pos he]
    by_cases ho : Int.tmod e 2 = 1
    · rw [if_pos ho, if_pos (by decide), if_pos (by decide), h11, hr, hw]
      exact ih (e / 2) r j (by omega) (by omega) (by omega) (by omega) r0 r8
    · rw [if_neg ho, if_pos (by decide), h11, hw]
      exact ih (e / 2) r j (by omega) (by omega) (by omega) (by omega) r0 r8

theorem pow8 (k : Nat) (hk : 20 ≤ k) (p e : Int) (hp : p % 2 = 1) (h0 : 0 ≤ p) (e0 : 0 ≤ e) (e60 : e ≤ 60) : Fquadformref22_ModPow k p e 8 = some (if e % 2 = 1 then p % 8 else 1) := by
  unfold Fquadformref22_ModPow Fquadformref22_ModPow.b
  rw [if_pos (by decide), mod8S k p h0, Option.bind_some, show Int.tmod 1 8 = 1 by decide]
  obtain ⟨j, rfl⟩ : ∃ m, k = m + 1 := ⟨k - 1, by omega⟩
  have e1 : Fquadformref22_ModPow.l0 (j + 1) (j + 1) (p % 8) e 8 1 = Fquadformref22_ModPow.l0_b (j + 1) (Fquadformref22_ModPow.l0 (j + 1) j) (p % 8) e 8 1 := rfl
  rw [e1]
  unfold Fquadformref22_ModPow.l0_b Fquadformref22_ModPow.c0
  have ha : p % 8 = 1 ∨ p % 8 = 3 ∨ p % 8 = 5 ∨ p % 8 = 7 := by omega
  have hsq : Int.tmod (IntKind.wrap .i64 (p % 8 * (p % 8))) 8 = 1 := by rcases ha with h | h | h | h <;> rw [h] <;> decide
  have hone : Int.tmod (IntKind.wrap .i64 (1 * (p % 8))) 8 = p % 8 := by rcases ha with h | h | h | h <;> rw [h] <;> decide
  have hw : IntKind.wrap .i64 (Int.tdiv e 2) = e / 2 := by rw [Int.tdiv_eq_ediv_of_nonneg e0]; exact wrap_id (by omega) (by omega)
  have htm : Int.tmod e 2 = e % 2 := Int.tmod_eq_emod_of_nonneg e0
  have h64 : (2 : Int) ^ 6 = 64 := by decide
  by_cases he : e > 0
  case neg =>
    have : e = 0 := by omega
    subst this
    rw [if_neg he]
    rfl
  rw [if_pos he, htm]
  by_cases ho : e % 2 = 1
  · rw [if_pos ho, if_pos (by decide), if_pos (by decide), hsq, hone, hw, pow_one (j + 1) 6 (e / 2) (p % 8) j (by omega) (by omega) (by omega) (by omega) (by omega) (by omega), if_pos ho]
    rfl
  · rw [if_neg ho, if_pos (by decide), hsq, hw, pow_one (j + 1) 6 (e / 2) 1 j (by omega) (by omega) (by omega) (by omega) (by omega) (by omega), if_neg ho]
    rfl

def fP (p : Int) (c : Constituent) : Int := if c.Exp % 2 = 0 then 0 else c.Dim * (p % 8 - 1) + (if c.Sign = -1 then 4 else 0)
def gR (p : Int) (c : Constituent) : Int := c.Dim * ((if c.Exp % 2 = 1 then p % 8 else 1) + 7) + (if c.Exp % 2 = 1 then (if c.Sign = -1 then 4 else 0) else 0)
def fsum (p : Int) : List Constituent → Int
  | [] => 0
  | c :: r => fP p c + fsum p r
def gsum (p : Int) : List Constituent → Int
  | [] => 0
  | c :: r => gR p c + gsum p r

theorem fg_one (p : Int) (c : Constituent) : ∃ q, gR p c = fP p c + 8 * q := by
  refine ⟨c.Dim, ?_⟩
  unfold gR fP
  rcases Int.emod_two_eq c.Exp with h | h
  · have h1 : ¬ c.Exp % 2 = 1 := by omega
    simp only [if_pos h, if_neg h1]
    omega
  · have h1 : ¬ c.Exp % 2 = 0 := by omega
    have : c.Dim * (p % 8 + 7) = c.Dim * (p % 8 - 1) + c.Dim * 8 := by
      rw [← Int.mul_add]; congr 1; omega
    simp only [if_pos h, if_neg h1, this]
    omega
theorem fg_sum (p : Int) : ∀ (r : List Constituent), ∃ q, gsum p r = fsum p r + 8 * q
  | [] => ⟨0, rfl⟩
  | c :: r => by
    obtain ⟨a, ha⟩ := fg_one p c
    obtain ⟨b, hb⟩ := fg_sum p r
    refine ⟨a + b, ?_⟩
    simp only [gsum, fsum, ha, hb]
    omega

theorem dim_mul {d x m : Int} (d0 : 1 ≤ d) (d8 : d ≤ 8) (x0 : 0 ≤ x) (xm : x ≤ m) : 0 ≤ d * x ∧ d * x ≤ 8 * m := ⟨Int.mul_nonneg (by omega) x0, Int.mul_le_mul d8 xm x0 (by decide)⟩

open Fsymbol_Excess in
theorem exP_loop (k : Nat) (p : Int) (hp : p % 2 = 1) (p0 : 0 ≤ p) (L : List Constituent) (hL : L.length ≤ 8) : ∀ (r : List Constituent) (j n : Nat) (s e : Int), r.length < j → L.drop n = r → n ≤ L.length → ascP e r → -1 ≤ e → 0 ≤ s → s ≤ 100 * n →
    Fsymbol_Excess.l0 k j p L s L (L.length : Int) (n : Int) = some (s + fsum p r) ∧ 0 ≤ fsum p r := by
  intro r
  induction r with
  | nil =>
    intro j n s e hj hr hn ha he s0 s1
    obtain ⟨j, rfl⟩ : ∃ i, j = i + 1 := ⟨j - 1, by simp at hj; omega⟩
    have hn' := drop_nilS hr hn
    refine ⟨?_, Int.le_refl _⟩
    show l0_b k (l0 k j) _ _ _ _ _ _ = _
    unfold l0_b
    rw [if_neg (by omega)]
    simp [fsum]
  | cons c r ih =>
    intro j n s e hj hr hn ha he s0 s1
    obtain ⟨j, rfl⟩ : ∃ i, j = i + 1 := ⟨j - 1, by simp at hj; omega⟩
    obtain ⟨g1, g2, g3, g4⟩ := drop_eltS hr
    simp only [List.length_cons] at hj
    simp only [ascP] at ha
    obtain ⟨a1, a2, a3, a4, a5, a6, a7⟩ := ha
    have hw2 : IntKind.wrap .i64 ((n : Int) + 1) = ((n + 1 : Nat) : Int) := by rw [wrap_id (by omega) (by omega)]; omega
    have htm : Int.tmod c.Exp 2 = c.Exp % 2 := Int.tmod_eq_emod_of_nonneg (by omega)
    have htp : Int.tmod p 8 = p % 8 := Int.tmod_eq_emod_of_nonneg p0
    have hx : 1 ≤ p % 8 ∧ p % 8 ≤ 7 := by omega
    obtain ⟨m1, m2⟩ := dim_mul (x := p % 8 - 1) (m := 6) a3 a4 (by omega) (by omega)
    have w1 : IntKind.wrap .i64 (p % 8 - 1) = p % 8 - 1 := wrap_id (by omega) (by omega)
    have w2 : IntKind.wrap .i64 (c.Dim * (p % 8 - 1)) = c.Dim * (p % 8 - 1) := wrap_id (by omega) (by omega)
    have w3 : IntKind.wrap .i64 (s + c.Dim * (p % 8 - 1)) = s + c.Dim * (p % 8 - 1) := wrap_id (by omega) (by omega)
    have w4 : IntKind.wrap .i64 (s + c.Dim * (p % 8 - 1) + 4) = s + c.Dim * (p % 8 - 1) + 4 := wrap_id (by omega) (by omega)
    have hf0 : 0 ≤ fP p c := by
      unfold fP
      by_cases h : c.Exp % 2 = 0
      · rw [if_pos h]; exact Int.le_refl _
      · rw [if_neg h]
        by_cases hs : c.Sign = -1
        · rw [if_pos hs]; omega
        · rw [if_neg hs]; omega
    show l0_b k (l0 k j) _ _ _ _ _ _ = _ ∧ _
    unfold l0_b
    rw [if_pos (by omega), g2, Option.bind_some, htm, htp, w1, w2, w3, w4, hw2]
    simp only [fsum]
    by_cases h0 : c.Exp % 2 = 0
    · obtain ⟨k1, k2⟩ := ih j (n + 1) s c.Exp (by omega) g3 (by omega) a7 (by omega) s0 (by omega)
      have : fP p c = 0 := if_pos h0
      rw [if_pos h0, k1, this, Int.zero_add]
      exact ⟨rfl, k2⟩
    rw [if_neg h0]
    by_cases hs : c.Sign = -1
    · obtain ⟨k1, k2⟩ := ih j (n + 1) (s + c.Dim * (p % 8 - 1) + 4) c.Exp (by omega) g3 (by omega) a7 (by omega) (by omega) (by omega)
      have : fP p c = c.Dim * (p % 8 - 1) + 4 := by unfold fP; rw [if_neg h0, if_pos hs]
      rw [if_pos hs, k1, this]
      refine ⟨by congr 1; omega, by omega⟩
    · obtain ⟨k1, k2⟩ := ih j (n + 1) (s + c.Dim * (p % 8 - 1)) c.Exp (by omega) g3 (by omega) a7 (by omega) (by omega) (by omega)
      have : fP p c = c.Dim * (p % 8 - 1) := by unfold fP; rw [if_neg h0, if_neg hs, Int.add_zero]
      rw [if_neg hs, k1, this]
      refine ⟨by congr 1; omega, by omega⟩

open Fquadformref26_Excess in
theorem exR_loop (k : Nat) (hk : 20 ≤ k) (p : Int) (hp : p % 2 = 1) (p0 : 0 ≤ p) (L : List Constituent) (hL : L.length ≤ 8) : ∀ (r : List Constituent) (j n : Nat) (s e : Int), r.length < j → L.drop n = r → n ≤ L.length → ascP e r → -1 ≤ e → 0 ≤ s → s ≤ 200 * n →
    Fquadformref26_Excess.l0 k j p L s L (L.length : Int) (n : Int) = some (s + gsum p r) ∧ 0 ≤ gsum p r := by
  intro r
  induction r with
  | nil =>
    intro j n s e hj hr hn ha he s0 s1
    obtain ⟨j, rfl⟩ : ∃ i, j = i + 1 := ⟨j - 1, by simp at hj; omega⟩
    have hn' := drop_nilS hr hn
    refine ⟨?_, Int.le_refl _⟩
    show l0_b k (l0 k j) _ _ _ _ _ _ = _
    unfold l0_b
    rw [if_neg (by omega)]
    simp [gsum]
  | cons c r ih =>
    intro j n s e hj hr hn ha he s0 s1
    obtain ⟨j, rfl⟩ : ∃ i, j = i + 1 := ⟨j - 1, by simp at hj; omega⟩
    obtain ⟨g1, g2, g3, g4⟩ := drop_eltS hr
    simp only [List.length_cons] at hj
    simp only [ascP] at ha
    obtain ⟨a1, a2, a3, a4, a5, a6, a7⟩ := ha
    have hw2 : IntKind.wrap .i64 ((n : Int) + 1) = ((n + 1 : Nat) : Int) := by rw [wrap_id (by omega) (by omega)]; omega
    have htm : Int.tmod c.Exp 2 = c.Exp % 2 := Int.tmod_eq_emod_of_nonneg (by omega)
    obtain ⟨x, hx⟩ : ∃ x, x = (if c.Exp % 2 = 1 then p % 8 else 1) := ⟨_, rfl⟩
    have hx1 : 0 ≤ x ∧ x ≤ 7 := by rw [hx]; split <;> omega
    obtain ⟨m1, m2⟩ := dim_mul (x := x + 7) (m := 14) a3 a4 (by omega) (by omega)
    have w1 : IntKind.wrap .i64 (x + 7) = x + 7 := wrap_id (by omega) (by omega)
    have w2 : IntKind.wrap .i64 (c.Dim * (x + 7)) = c.Dim * (x + 7) := wrap_id (by omega) (by omega)
    have w3 : IntKind.wrap .i64 (s + c.Dim * (x + 7)) = s + c.Dim * (x + 7) := wrap_id (by omega) (by omega)
    have w4 : IntKind.wrap .i64 (s + c.Dim * (x + 7) + 4) = s + c.Dim * (x + 7) + 4 := wrap_id (by omega) (by omega)
    show l0_b k (l0 k j) _ _ _ _ _ _ = _ ∧ _
    unfold l0_b
    rw [if_pos (by omega), g2, Option.bind_some, pow8 k hk p c.Exp hp p0 (by omega) a2, Option.bind_some, ← hx, htm, w1, w2, w3, w4, hw2]
    simp only [gsum]
    by_cases h1 : c.Exp % 2 = 1
    · rw [if_pos h1]
      by_cases hs : c.Sign = -1
      · obtain ⟨k1, k2⟩ := ih j (n + 1) (s + c.Dim * (x + 7) + 4) c.Exp (by omega) g3 (by omega) a7 (by omega) (by omega) (by omega)
        have : gR p c = c.Dim * (x + 7) + 4 := by unfold gR; rw [← hx, if_pos h1, if_pos hs]
        rw [if_pos hs, k1, this]
        exact ⟨by congr 1; omega, by omega⟩
      · obtain ⟨k1, k2⟩ := ih j (n + 1) (s + c.Dim * (x + 7)) c.Exp (by omega) g3 (by omega) a7 (by omega) (by omega) (by omega)
        have : gR p c = c.Dim * (x + 7) := by unfold gR; rw [← hx, if_pos h1, if_neg hs, Int.add_zero]
        rw [if_neg hs, k1, this]
        exact ⟨by congr 1; omega, by omega⟩
    · obtain ⟨k1, k2⟩ := ih j (n + 1) (s + c.Dim * (x + 7)) c.Exp (by omega) g3 (by omega) a7 (by omega) (by omega) (by omega)
      have : gR p c = c.Dim * (x + 7) := by unfold gR; rw [← hx, if_neg h1, Int.add_zero]
      rw [if_neg h1, k1, this]
      exact ⟨by congr 1; omega, by omega⟩

/-- the law behind what is made -/
theorem excess_same (k : Nat) (p : Int) (L : List Constituent) (hL : L.length ≤ 1000) (hk : L.length + 150 ≤ k) :
    (symP p L ∧ ∃ x, Fsymbol_Excess k p L = some (x, 0) ∧ Fquadformref26_Excess k p L = some x) ∨ (¬ symP p L ∧ Fsymbol_Excess k p L = some (0, 22)) := by
  by_cases h : symP p L
  · left
    obtain ⟨hp, h1, h8, ha, hd⟩ := id h
    have hodd := odd_odd hp
    have p0 := hp.1
    obtain ⟨a1, a2⟩ := exP_loop k p hodd (by omega) L h8 L k 0 0 (-1) (by omega) rfl (by omega) ha (by omega) (by omega) (by omega)
    obtain ⟨b1, b2⟩ := exR_loop k (by omega) p hodd (by omega) L h8 L k 0 0 (-1) (by omega) rfl (by omega) ha (by omega) (by omega) (by omega)
    have e0 : ((0 : Nat) : Int) = 0 := rfl
    rw [e0, Int.zero_add] at a1 b1
    obtain ⟨q, hq⟩ := fg_sum p L
    refine ⟨h, fsum p L % 8, ?_, ?_⟩
    · unfold Fsymbol_Excess Fsymbol_Excess.b
      rw [validP_val k (by omega), Option.bind_some, if_pos (by simpa using h), a1, Option.bind_some]
      show Fsymbol_Excess.c0 k _ = _
      unfold Fsymbol_Excess.c0
      rw [Int.tmod_eq_emod_of_nonneg a2]
    · unfold Fquadformref26_Excess Fquadformref26_Excess.b
      rw [b1, Option.bind_some]
      show Fquadformref26_Excess.c0 k _ = _
      unfold Fquadformref26_Excess.c0
      have h8 : gsum p L % 8 = fsum p L % 8 := by rw [hq]; omega
      rw [Int.tmod_eq_emod_of_nonneg b2, h8]
  · right
    refine ⟨h, ?_⟩
    unfold Fsymbol_Excess Fsymbol_Excess.b
    rw [validP_val k (by omega), Option.bind_some, if_neg (by simpa using h)]

end Go.Cn
