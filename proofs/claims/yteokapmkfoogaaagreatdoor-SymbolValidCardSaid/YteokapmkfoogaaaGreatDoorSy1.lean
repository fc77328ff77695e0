/- Symbols for odd primes: prime numbers, valid symbols. -/
import Derived.Test.YteokapmkfoogaaaGreatDoorTa5
set_option linter.unusedVariables false
noncomputable section
open Classical
namespace Go.Cn

def trial (n d : Int) : Prop := ∃ e, d ≤ e ∧ e * e ≤ n ∧ n % e = 0

theorem sq_le {d m : Int} (h0 : 0 ≤ d) (h : d ≤ m) : d * d ≤ m * m := Int.mul_le_mul h h h0 (Int.le_trans h0 h)

theorem trial_step {n d : Int} (h : ¬ n % d = 0) : trial n d ↔ trial n (d + 1) := by
  constructor
  · rintro ⟨e, h1, h2, h3⟩
    refine ⟨e, ?_, h2, h3⟩
    rcases Int.lt_or_le d e with hh | hh
    · omega
    · have : e = d := by omega
      subst this; exact absurd h3 h
  · rintro ⟨e, h1, h2, h3⟩
    exact ⟨e, by omega, h2, h3⟩

theorem trial_none {n d : Int} (h0 : 0 ≤ d) (h : n < d * d) : ¬ trial n d := by
  rintro ⟨e, h1, h2, h3⟩
  have := sq_le h0 h1
  omega

theorem small_d {n d : Int} (h0 : 0 ≤ d) (hn : n ≤ 9973) (h : d * d ≤ n) : d ≤ 99 := by
  rcases Int.lt_or_le 99 d with hh | hh
  · have := sq_le (d := 100) (m := d) (by decide) (by omega)
    omega
  · exact hh

theorem wrap_sq {d : Int} (h0 : 0 ≤ d) (h1 : d ≤ 100) : IntKind.wrap .i64 (d * d) = d * d := by
  have h2 := sq_le h0 h1
  have h3 : 0 ≤ d * d := Int.mul_nonneg h0 h0
  exact wrap_id (by omega) (by omega)

theorem isP_loop (k : Nat) (n : Int) (hn : 2 ≤ n) (hn' : n ≤ 9973) : ∀ (j : Nat) (d : Int), 2 ≤ d → d ≤ 100 → 100 < d + j → Fprime_Is.l0 k j n d = some (if trial n d then .ret false else .x0) := by
  intro j
  induction j with
  | zero => intro d h2 h1 hj; omega
  | succ j ih =>
    intro d h2 h1 hj
    show Fprime_Is.l0_b k (Fprime_Is.l0 k j) n d = _
    unfold Fprime_Is.l0_b
    rw [wrap_sq (by omega) h1, Int.tmod_eq_emod_of_nonneg (by omega)]
    by_cases hd : d * d ≤ n
    · rw [if_pos hd, if_pos (by omega)]
      by_cases hm : n % d = 0
      · rw [if_pos hm, if_pos ⟨d, Int.le_refl _, hd, hm⟩]
      · have := small_d (by omega) hn' hd
        rw [if_neg hm, wrap_id (by omega) (by omega), ih (d + 1) (by omega) (by omega) (by omega)]
        simp only [trial_step hm]
    · rw [if_neg hd, if_neg (trial_none (by omega) (by omega))]

theorem isR_loop (k : Nat) (n : Int) (hn : 2 ≤ n) (hn' : n ≤ 9973) : ∀ (j : Nat) (d : Int), 2 ≤ d → d ≤ 100 → 100 < d + j → Fquadformref22_Is.l0 k j n d = some (if trial n d then .ret false else .x0) := by
  intro j
  induction j with
  | zero => intro d h2 h1 hj; omega
  | succ j ih =>
    intro d h2 h1 hj
    show Fquadformref22_Is.l0_b k (Fquadformref22_Is.l0 k j) n d = _
    unfold Fquadformref22_Is.l0_b
    rw [wrap_sq (by omega) h1, Int.tmod_eq_emod_of_nonneg (by omega)]
    by_cases hd : d * d ≤ n
    · rw [if_pos hd, if_pos (by omega)]
      by_cases hm : n % d = 0
      · rw [if_pos hm, if_pos ⟨d, Int.le_refl _, hd, hm⟩]
      · have := small_d (by omega) hn' hd
        rw [if_neg hm, wrap_id (by omega) (by omega), ih (d + 1) (by omega) (by omega) (by omega)]
        simp only [trial_step hm]
    · rw [if_neg hd, if_neg (trial_none (by omega) (by omega))]

def oddPrime (p : Int) : Prop := 2 < p ∧ p ≤ 9973 ∧ ¬ trial p 2

theorem oddR_val (k : Nat) (hk : 150 ≤ k) (p : Int) : Fquadformref24_Odd k p = some (decide (oddPrime p)) := by
  unfold Fquadformref24_Odd Fquadformref24_Odd.b Fquadformref24_Small Fquadformref24_Small.b
  by_cases h1 : p = 2
  · rw [if_pos h1, decide_eq_false (p := oddPrime p) (fun h => by have := h.1; omega)]
  rw [if_neg h1]
  by_cases h2 : p ≤ 9973
  case neg => rw [if_neg h2, decide_eq_false (p := oddPrime p) (fun h => h2 h.2.1)]; rfl
  rw [if_pos h2]
  unfold Fquadformref22_Is Fquadformref22_Is.b
  by_cases h0 : p < 2
  · rw [if_pos h0, decide_eq_false (p := oddPrime p) (fun h => by have := h.1; omega)]; rfl
  rw [if_neg h0, if_neg (by omega), isR_loop k p (by omega) h2 k 2 (by omega) (by omega) (by omega)]
  by_cases h3 : trial p 2
  · rw [if_pos h3, decide_eq_false (p := oddPrime p) (fun h => h.2.2 h3)]; rfl
  · rw [if_neg h3, decide_eq_true (p := oddPrime p) ⟨by omega, h2, h3⟩]; rfl

/-- the symbol of a number that p does not divide -/


theorem is_val (k : Nat) (hk : 150 ≤ k) (p : Int) (h2 : 2 < p) (h9 : p ≤ 9973) : Fprime_Is k p = some (decide (oddPrime p)) := by
  unfold Fprime_Is Fprime_Is.b
  rw [if_neg (by omega), if_neg (by omega), isP_loop k p (by omega) h9 k 2 (by omega) (by omega) (by omega)]
  by_cases h3 : trial p 2
  · rw [if_pos h3, decide_eq_false (p := oddPrime p) (fun h => h.2.2 h3)]; rfl
  · rw [if_neg h3, decide_eq_true (p := oddPrime p) ⟨h2, h9, h3⟩]; rfl

theorem odd_odd {p : Int} (h : oddPrime p) : p % 2 = 1 := by
  obtain ⟨h1, h2, h3⟩ := h
  rcases Int.emod_two_eq p with h | h
  · exact absurd ⟨2, by omega, by omega, h⟩ h3
  · exact h

/-- as the program asks -/
def ascP (e : Int) : List Constituent → Prop
  | [] => True
  | c :: r => e < c.Exp ∧ c.Exp ≤ 60 ∧ 1 ≤ c.Dim ∧ c.Dim ≤ 8 ∧ signed c ∧ bare c ∧ ascP c.Exp r
open Fsymbol_Valid in
theorem valid_loop (k : Nat) (p : Int) (L : List Constituent) (hL : L.length ≤ 8) : ∀ (r : List Constituent) (j n : Nat) (s : Int), r.length < j → L.drop n = r → n ≤ L.length → 0 ≤ s → s ≤ 8 * n →
    ∀ e, -1 ≤ e → (n = 0 → e = -1) → (∀ m q, n = m + 1 → L[m]? = some q → e = q.Exp) →
    Fsymbol_Valid.l0 k j p L s L (L.length : Int) (n : Int) = if ascP e r then some (.x0 (s + dims r)) else some (.ret false) := by
  intro r
  induction r with
  | nil =>
    intro j n s hj hr hn s0 s1 e he0 he he'
    obtain ⟨j, rfl⟩ : ∃ i, j = i + 1 := ⟨j - 1, by simp at hj; omega⟩
    have hn' := drop_nilS hr hn
    show l0_b k (l0 k j) _ _ _ _ _ _ = _
    unfold l0_b
    rw [if_neg (by omega), if_pos (by simp [ascP])]
    simp [dims]
  | cons c r ih =>
    intro j n s hj hr hn s0 s1 e he0 he he'
    obtain ⟨j, rfl⟩ : ∃ i, j = i + 1 := ⟨j - 1, by simp at hj; omega⟩
    obtain ⟨g1, g2, g3, g4⟩ := drop_eltS hr
    simp only [List.length_cons] at hj
    have hw2 : IntKind.wrap .i64 ((n : Int) + 1) = ((n + 1 : Nat) : Int) := by rw [wrap_id (by omega) (by omega)]; omega
    -- what is left when the exponent is right
    have tail : e < c.Exp → c.Exp ≤ 60 →
        (if c.Dim < (1 : Int) then (some (O0.ret (false))) else (if c.Dim > (8 : Int) then (some (.ret (false))) else (if c.Sign = (1 : Int) then (if c.Odd = true then (some (.ret (false))) else (if c.Oddity = (0 : Int) then ((l0 k j) p L (IntKind.wrap .i64 (s + c.Dim)) L (L.length : Int) (IntKind.wrap .i64 ((n : Int) + (1 : Int)))) else (some (.ret (false))))) else (if c.Sign = (-1 : Int) then (if c.Odd = true then (some (.ret (false))) else (if c.Oddity = (0 : Int) then ((l0 k j) p L (IntKind.wrap .i64 (s + c.Dim)) L (L.length : Int) (IntKind.wrap .i64 ((n : Int) + (1 : Int)))) else (some (.ret (false))))) else (some (.ret (false))))))) =
        if ascP e (c :: r) then some (.x0 (s + dims (c :: r))) else some (.ret false) := by
      intro x1 x2
      by_cases d1 : c.Dim < 1
      · rw [if_pos d1, if_neg (by simp only [ascP]; omega)]
      rw [if_neg d1]
      by_cases d2 : c.Dim > 8
      · rw [if_pos d2, if_neg (by simp only [ascP]; omega)]
      rw [if_neg d2]
      have hw3 : IntKind.wrap .i64 (s + c.Dim) = s + c.Dim := wrap_id (by omega) (by omega)
      have key := ih j (n + 1) (s + c.Dim) (by omega) g3 (by omega) (by omega) (by omega) c.Exp (by omega) (fun h => absurd h (by omega)) (fun m q hm hq => by
        have : m = n := by omega
        subst this
        rw [g4] at hq
        cases hq; rfl)
      have fin : signed c → (if c.Odd = true then (some (O0.ret (false))) else (if c.Oddity = (0 : Int) then ((l0 k j) p L (IntKind.wrap .i64 (s + c.Dim)) L (L.length : Int) (IntKind.wrap .i64 ((n : Int) + (1 : Int)))) else (some (.ret (false))))) = if ascP e (c :: r) then some (.x0 (s + dims (c :: r))) else some (.ret false) := by
        intro hs
        by_cases o1 : c.Odd = true
        · rw [if_pos o1, if_neg (by simp only [ascP, bare]; rintro ⟨-, -, -, -, -, h, -⟩; rw [o1] at h; exact absurd h.1 (by decide))]
        rw [if_neg o1]
        by_cases o2 : c.Oddity = 0
        case neg => rw [if_neg o2, if_neg (by simp only [ascP, bare]; rintro ⟨-, -, -, -, -, h, -⟩; exact o2 h.2)]
        rw [if_pos o2, hw2, hw3, key]
        have hiff : ascP e (c :: r) ↔ ascP c.Exp r := by
          constructor
          · intro h; simp only [ascP] at h; exact h.2.2.2.2.2.2
          · intro h; simp only [ascP]; exact ⟨x1, x2, by omega, by omega, hs, ⟨by simpa using o1, o2⟩, h⟩
        simp only [hiff, dims, Int.add_assoc]
      by_cases s1' : c.Sign = 1
      · rw [if_pos s1']; exact fin (.inl s1')
      rw [if_neg s1']
      by_cases s2' : c.Sign = -1
      · rw [if_pos s2']; exact fin (.inr s2')
      rw [if_neg s2', if_neg (by simp only [ascP, signed]; rintro ⟨-, -, -, -, h, -⟩; rcases h with h | h <;> contradiction)]
    show l0_b k (l0 k j) _ _ _ _ _ _ = _
    unfold l0_b
    rw [if_pos (by omega), g2, Option.bind_some]
    by_cases e1 : c.Exp < 0
    · rw [if_pos e1, if_neg (by simp only [ascP]; omega)]
    rw [if_neg e1]
    by_cases e2 : c.Exp > 60
    · rw [if_pos e2, if_neg (by simp only [ascP]; omega)]
    rw [if_neg e2]
    cases n with
    | zero =>
      rw [if_neg (by simp)]
      have := he rfl
      exact tail (by omega) (by omega)
    | succ n =>
      rw [if_pos (by omega)]
      have hw1 : IntKind.wrap .i64 (((n + 1 : Nat) : Int) - 1) = (n : Int) := by rw [wrap_id (by omega) (by omega)]; omega
      have hq : L[n]? = some L[n] := List.getElem?_eq_getElem (by omega)
      rw [hw1, elt_nat, hq, Option.bind_some]
      have hqe := he' n _ rfl hq
      by_cases hlt : c.Exp ≤ L[n].Exp
      · rw [if_pos hlt, if_neg (by simp only [ascP]; omega)]
      rw [if_neg hlt]
      exact tail (by omega) (by omega)

def symP (p : Int) (L : List Constituent) : Prop := oddPrime p ∧ 1 ≤ L.length ∧ L.length ≤ 8 ∧ ascP (-1) L ∧ dims L ≤ 8

theorem validP_val (k : Nat) (hk : 150 ≤ k) (p : Int) (L : List Constituent) : Fsymbol_Valid k p L = some (decide (symP p L)) := by
  unfold Fsymbol_Valid Fsymbol_Valid.b
  by_cases h1 : p < 3
  · rw [if_pos h1, decide_eq_false (p := symP p L) (fun h => by have := h.1.1; omega)]
  rw [if_neg h1]
  by_cases h2 : p > 9973
  · rw [if_pos h2, decide_eq_false (p := symP p L) (fun h => by have := h.1.2.1; omega)]
  rw [if_neg h2, is_val k hk p (by omega) (by omega), Option.bind_some]
  by_cases hp : oddPrime p
  case neg => rw [if_neg (by simpa using hp), decide_eq_false (p := symP p L) (fun h => hp h.1)]
  rw [if_pos (by simpa using hp)]
  by_cases l1 : (L.length : Int) < 1
  · rw [if_pos l1, decide_eq_false (p := symP p L) (fun h => by have := h.2.1; omega)]
  rw [if_neg l1]
  by_cases l8 : (L.length : Int) > 8
  · rw [if_pos l8, decide_eq_false (p := symP p L) (fun h => by have := h.2.2.1; omega)]
  rw [if_neg l8]
  have key := valid_loop k p L (by omega) L k 0 0 (by omega) rfl (by omega) (by omega) (by omega) (-1) (by omega) (fun _ => rfl) (fun m q h => absurd h (by omega))
  have e0 : ((0 : Nat) : Int) = 0 := rfl
  rw [e0] at key
  rw [key]
  by_cases ha : ascP (-1) L
  case neg => rw [if_neg ha, decide_eq_false (p := symP p L) (fun h => ha h.2.2.2.1)]; rfl
  rw [if_pos ha]
  show Fsymbol_Valid.c0 k (0 + dims L) = _
  unfold Fsymbol_Valid.c0
  rw [Int.zero_add]
  by_cases hd : dims L ≤ 8
  · rw [decide_eq_true hd, decide_eq_true (p := symP p L) ⟨hp, by omega, by omega, ha, hd⟩]
  · rw [decide_eq_false hd, decide_eq_false (p := symP p L) (fun h => hd h.2.2.2.2)]

end Go.Cn
