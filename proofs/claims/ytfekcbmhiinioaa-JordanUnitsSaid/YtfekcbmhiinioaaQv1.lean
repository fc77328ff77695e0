/- The plain law of JordanConstituents: prime numbers and powers. -/
import Derived.Test.YtfekcbmhiinioaaTf4
import Derived.Test.YtfekcbmhiinioaaPl1
set_option linter.unusedVariables false
noncomputable section
open Classical
namespace Go.Cn

def trial (n d : Int) : Prop := ∃ e, d ≤ e ∧ e * e ≤ n ∧ n % e = 0

theorem sq_le {d m : Int} (h0 : 0 ≤ d) (h : d ≤ m) : d * d ≤ m * m := Int.mul_le_mul h h h0 (Int.le_trans h0 h)

theorem trial_step {n d : Int} (h : ¬ n % d = 0) : trial n d ↔ trial n (d + 1) := by
  constructor
  · rintro ⟨e, h1, h2, h3⟩
    refine ⟨e, ?_, h2, h3⟩
    rcases Int.lt_or_le d e with hh | hh
    · omega
    · have : e = d := by omega
      subst this; exact absurd h3 h
  · rintro ⟨e, h1, h2, h3⟩
    exact ⟨e, by omega, h2, h3⟩

theorem trial_none {n d : Int} (h0 : 0 ≤ d) (h : n < d * d) : ¬ trial n d := by
  rintro ⟨e, h1, h2, h3⟩
  have := sq_le h0 h1
  omega

theorem small_d {n d : Int} (h0 : 0 ≤ d) (hn : n ≤ 9973) (h : d * d ≤ n) : d ≤ 99 := by
  rcases Int.lt_or_le 99 d with hh | hh
  · have := sq_le (d := 100) (m := d) (by decide) (by omega)
    omega
  · exact hh

theorem wrap_sq {d : Int} (h0 : 0 ≤ d) (h1 : d ≤ 100) : IntKind.wrap .i64 (d * d) = d * d := by
  have h2 := sq_le h0 h1
  have h3 : 0 ≤ d * d := Int.mul_nonneg h0 h0
  exact wrap_id (by omega) (by omega)

theorem isP_loop (k : Nat) (n : Int) (hn : 2 ≤ n) (hn' : n ≤ 9973) : ∀ (j : Nat) (d : Int), 2 ≤ d → d ≤ 100 → 100 < d + j → Fprime_Is.l0 k j n d = some (if trial n d then .ret false else .x0) := by
  intro j
  induction j with
  | zero => intro d h2 h1 hj; omega
  | succ j ih =>
    intro d h2 h1 hj
    show Fprime_Is.l0_b k (Fprime_Is.l0 k j) n d = _
    unfold Fprime_Is.l0_b
    rw [wrap_sq (by omega) h1, Int.tmod_eq_emod_of_nonneg (by omega)]
    by_cases hd : d * d ≤ n
    · rw [if_pos hd, if_pos (by omega)]
      by_cases hm : n % d = 0
      · rw [if_pos hm, if_pos ⟨d, Int.le_refl _, hd, hm⟩]
      · have := small_d (by omega) hn' hd
        rw [if_neg hm, wrap_id (by omega) (by omega), ih (d + 1) (by omega) (by omega) (by omega)]
        simp only [trial_step hm]
    · rw [if_neg hd, if_neg (trial_none (by omega) (by omega))]

def oddPrime (p : Int) : Prop := 2 < p ∧ p ≤ 9973 ∧ ¬ trial p 2

theorem odd_val (k : Nat) (hk : 150 ≤ k) (p : Int) : Fjordan_odd k p = some (decide (oddPrime p)) := by
  unfold Fjordan_odd Fjordan_odd.b
  by_cases h1 : p > 2
  case neg => rw [if_neg h1, decide_eq_false (p := oddPrime p) (fun h => h1 h.1)]
  rw [if_pos h1]
  by_cases h2 : p ≤ 9973
  case neg => rw [if_neg h2, decide_eq_false (p := oddPrime p) (fun h => h2 h.2.1)]
  rw [if_pos h2]
  unfold Fprime_Is Fprime_Is.b
  rw [if_neg (by omega), if_neg (by omega), isP_loop k p (by omega) h2 k 2 (by omega) (by omega) (by omega)]
  by_cases h3 : trial p 2
  · rw [if_pos h3, decide_eq_false (p := oddPrime p) (fun h => h.2.2 h3)]; rfl
  · rw [if_neg h3, decide_eq_true (p := oddPrime p) ⟨h1, h2, h3⟩]; rfl

theorem divisors {p : Int} (hp : oddPrime p) (g : Nat) (h : g ∣ p.toNat) : g = 1 ∨ g = p.toNat := by
  obtain ⟨q, hq⟩ := h
  have hP : ((p.toNat : Nat) : Int) = p := Int.toNat_of_nonneg (by have := hp.1; omega)
  have h2 := hp.1
  rcases Nat.lt_trichotomy g 1 with h1 | h1 | h1
  · have : g = 0 := by omega
    subst this
    simp at hq; omega
  · exact .inl h1
  · rcases Nat.lt_trichotomy q 1 with hq1 | hq1 | hq1
    · have : q = 0 := by omega
      subst this
      simp at hq; omega
    · subst hq1; right; omega
    · exfalso
      refine hp.2.2 ?_
      have hpe : p = (g : Int) * (q : Int) := by rw [← hP, hq]; exact Int.natCast_mul g q
      rcases Nat.le_total g q with hh | hh
      · refine ⟨g, by omega, ?_, ?_⟩
        · rw [hpe]; exact Int.mul_le_mul_of_nonneg_left (by omega) (by omega)
        · rw [hpe]; exact Int.mul_emod_right _ _
      · refine ⟨q, by omega, ?_, ?_⟩
        · rw [hpe]; exact Int.mul_le_mul_of_nonneg_right (by omega) (by omega)
        · rw [hpe]; exact Int.mul_emod_left _ _

theorem euclid {p x y : Int} (hp : oddPrime p) (hx : x % p ≠ 0) (hy : y % p ≠ 0) : (x * y) % p ≠ 0 := by
  intro h
  have hP : ((p.toNat : Nat) : Int) = p := Int.toNat_of_nonneg (by have := hp.1; omega)
  have hnp : p.natAbs = p.toNat := by have := hp.1; omega
  have hd : p.natAbs ∣ x.natAbs * y.natAbs := by
    rw [← Int.natAbs_mul]
    exact Int.natAbs_dvd_natAbs.2 (Int.dvd_of_emod_eq_zero h)
  have hg := divisors hp (Nat.gcd p.natAbs x.natAbs) (by rw [← hnp]; exact Nat.gcd_dvd_left _ _)
  rcases hg with hg | hg
  · have : p.natAbs ∣ y.natAbs := Nat.Coprime.dvd_of_dvd_mul_left hg hd
    exact hy (Int.emod_eq_zero_of_dvd (Int.natAbs_dvd_natAbs.1 this))
  · have : p.natAbs ∣ x.natAbs := by
      have h3 := Nat.gcd_dvd_right p.natAbs x.natAbs
      rw [hg, ← hnp] at h3
      exact h3
    exact hx (Int.emod_eq_zero_of_dvd (Int.natAbs_dvd_natAbs.1 this))

theorem prod_small {p a b : Int} (hp : p ≤ 9973) (a0 : 0 ≤ a) (ap : a < p) (b0 : 0 ≤ b) (bp : b < p) : 0 ≤ a * b ∧ a * b ≤ 9973 * 9973 :=
  ⟨Int.mul_nonneg a0 b0, Int.mul_le_mul (by omega) (by omega) b0 (by decide)⟩

theorem modmul {p a b : Int} (hp : oddPrime p) (a0 : 0 < a) (ap : a < p) (b0 : 0 < b) (bp : b < p) :
    Int.tmod (IntKind.wrap .i64 (a * b)) p = a * b % p ∧ 0 < a * b % p ∧ a * b % p < p := by
  obtain ⟨h1, h2⟩ := prod_small hp.2.1 (Int.le_of_lt a0) ap (Int.le_of_lt b0) bp
  have hp2 := hp.1
  have h3 := euclid hp (x := a) (y := b) (by rw [Int.emod_eq_of_lt (by omega) ap]; omega) (by rw [Int.emod_eq_of_lt (by omega) bp]; omega)
  have h4 := Int.emod_nonneg (a * b) (show p ≠ 0 by omega)
  have h5 := Int.emod_lt_of_pos (a * b) (show 0 < p by omega)
  refine ⟨?_, by omega, h5⟩
  rw [wrap_id (by omega) (by omega), Int.tmod_eq_emod_of_nonneg h1]

theorem pow_loop (k : Nat) (p : Int) (hp : oddPrime p) : ∀ (i : Nat) (e a r : Int) (j : Nat), 0 ≤ e → e < 2 ^ i → i < j → i < 60 → 0 < a → a < p → 0 < r → r < p →
    ∃ q, 0 < q ∧ q < p ∧ Fprime_symbol.l0 k j a p r e = some q ∧ Fquadformref22_ModPow.l0 k j a e p r = some q := by
  intro i
  induction i with
  | zero =>
    intro e a r j e0 ei hij hi a0 ap r0 rp
    obtain ⟨j, rfl⟩ : ∃ m, j = m + 1 := ⟨j - 1, by omega⟩
    have : e = 0 := by
      have : (2 : Int) ^ 0 = 1 := rfl
      omega
    subst this
    refine ⟨r, r0, rp, ?_, ?_⟩
    · show Fprime_symbol.l0_b k (Fprime_symbol.l0 k j) _ _ _ _ = _
      unfold Fprime_symbol.l0_b
      rw [if_neg (by omega)]
    · show Fquadformref22_ModPow.l0_b k (Fquadformref22_ModPow.l0 k j) _ _ _ _ = _
      unfold Fquadformref22_ModPow.l0_b
      rw [if_neg (by omega)]
  | succ i ih =>
    intro e a r j e0 ei hij hi a0 ap r0 rp
    obtain ⟨j, rfl⟩ : ∃ m, j = m + 1 := ⟨j - 1, by omega⟩
    by_cases he : e > 0
    case neg =>
      refine ⟨r, r0, rp, ?_, ?_⟩
      · show Fprime_symbol.l0_b k (Fprime_symbol.l0 k j) _ _ _ _ = _
        unfold Fprime_symbol.l0_b
        rw [if_neg he]
      · show Fquadformref22_ModPow.l0_b k (Fquadformref22_ModPow.l0 k j) _ _ _ _ = _
        unfold Fquadformref22_ModPow.l0_b
        rw [if_neg he]
    have hp2 := hp.1
    have hpow : (2 : Int) ^ (i + 1) = 2 ^ i * 2 := rfl
    have hpow60 : (2 : Int) ^ (i + 1) ≤ 2 ^ 60 := by
      have : (2 : Nat) ^ (i + 1) ≤ 2 ^ 60 := Nat.pow_le_pow_right (by decide) (by omega)
      have h' : (((2 : Nat) ^ (i + 1) : Nat) : Int) ≤ ((2 ^ 60 : Nat) : Int) := Int.ofNat_le.2 this
      simpa using h'
    have h60 : (2 : Int) ^ 60 = 1152921504606846976 := by decide
    have hhalf : Int.tdiv e 2 = e / 2 := Int.tdiv_eq_ediv_of_nonneg e0
    have hw : IntKind.wrap .i64 (Int.tdiv e 2) = e / 2 := by rw [hhalf]; exact wrap_id (by omega) (by omega)
    obtain ⟨m1, m2, m3⟩ := modmul hp a0 ap a0 ap
    obtain ⟨n1, n2, n3⟩ := modmul hp r0 rp a0 ap
    have hpn : ¬ p = 0 := by omega
    by_cases ho : Int.tmod e 2 = 1
    · obtain ⟨q, q1, q2, q3, q4⟩ := ih (e / 2) (a * a % p) (r * a % p) j (by omega) (by omega) (by omega) (by omega) m2 m3 n2 n3
      refine ⟨q, q1, q2, ?_, ?_⟩
      · show Fprime_symbol.l0_b k (Fprime_symbol.l0 k j) _ _ _ _ = _
        unfold Fprime_symbol.l0_b Fprime_symbol.c2
        rw [if_pos he, if_pos ho, if_pos hpn, if_pos hpn, m1, n1, hw]
        exact q3
      · show Fquadformref22_ModPow.l0_b k (Fquadformref22_ModPow.l0 k j) _ _ _ _ = _
        unfold Fquadformref22_ModPow.l0_b Fquadformref22_ModPow.c0
        rw [if_pos he, if_pos ho, if_pos hpn, if_pos hpn, m1, n1, hw]
        exact q4
    · obtain ⟨q, q1, q2, q3, q4⟩ := ih (e / 2) (a * a % p) r j (by omega) (by omega) (by omega) (by omega) m2 m3 r0 rp
      refine ⟨q, q1, q2, ?_, ?_⟩
      · show Fprime_symbol.l0_b k (Fprime_symbol.l0 k j) _ _ _ _ = _
        unfold Fprime_symbol.l0_b Fprime_symbol.c2
        rw [if_pos he, if_neg ho, if_pos hpn, m1, hw]
        exact q3
      · show Fquadformref22_ModPow.l0_b k (Fquadformref22_ModPow.l0 k j) _ _ _ _ = _
        unfold Fquadformref22_ModPow.l0_b Fquadformref22_ModPow.c0
        rw [if_pos he, if_neg ho, if_pos hpn, m1, hw]
        exact q4

theorem tmod_emod (a p : Int) : Int.tmod a p % p = a % p := by
  have h2 := Int.tmod_add_mul_tdiv a p
  have h3 : (Int.tmod a p + p * Int.tdiv a p) % p = Int.tmod a p % p := Int.add_mul_emod_self_left _ _ _
  rw [h2] at h3
  exact h3.symm

theorem mod_val (a p : Int) (hp : 2 < p) (hp' : p ≤ 9973) : Int.tmod a p < 0 → IntKind.wrap .i64 (Int.tmod a p + p) = a % p := by
  intro h
  have h1 := Int.lt_tmod_of_pos a (show 0 < p by omega)
  rw [wrap_id (by omega) (by omega)]
  have h2 := Int.tmod_add_mul_tdiv a p
  have h3 := Int.emod_add_mul_ediv a p
  have h4 := Int.emod_nonneg a (show p ≠ 0 by omega)
  have h5 := Int.emod_lt_of_pos a (show 0 < p by omega)
  have h6 : (Int.tmod a p + p) % p = a % p := by
    rw [Int.add_emod_right]
    exact tmod_emod a p
  rw [← h6, Int.emod_eq_of_lt (by omega) (by omega)]

theorem mod_val' (a p : Int) (hp : 2 < p) (h : ¬ Int.tmod a p < 0) : Int.tmod a p = a % p := by
  have h5 := Int.tmod_lt_of_pos a (show 0 < p by omega)
  have h6 : (Int.tmod a p) % p = a % p := tmod_emod a p
  rw [← h6, Int.emod_eq_of_lt (by omega) h5]

theorem resJ (k : Nat) (a p : Int) (hp : 2 < p) (hp' : p ≤ 9973) : Fjordan_residue k a p = some (a % p) := by
  unfold Fjordan_residue Fjordan_residue.b
  rw [if_pos (by omega)]
  split
  · next h => rw [mod_val a p hp hp' h]
  · next h => rw [mod_val' a p hp h]
theorem resP (k : Nat) (a p : Int) (hp : 2 < p) (hp' : p ≤ 9973) : Fprime_residue k a p = some (a % p) := by
  unfold Fprime_residue Fprime_residue.b
  rw [if_pos (by omega)]
  split
  · next h => rw [mod_val a p hp hp' h]
  · next h => rw [mod_val' a p hp h]
theorem resM (k : Nat) (a p : Int) (hp : 2 < p) (hp' : p ≤ 9973) : Fquadformref22_Mod k a p = some (a % p) := by
  unfold Fquadformref22_Mod Fquadformref22_Mod.b
  rw [if_pos (by omega)]
  split
  · next h => rw [mod_val a p hp hp' h]
  · next h => rw [mod_val' a p hp h]

theorem fac_loop (k : Nat) (n : Int) (hn : 2 ≤ n) (hn' : n ≤ 9973) : ∀ (j : Nat) (d : Int), 2 ≤ d → d ≤ 100 → 100 < d + j → ¬ trial n d → Fprime_Factor.l1 k j n d = some (.x0 [Power.mk n 1]) := by
  intro j
  induction j with
  | zero => intro d h2 h1 hj; omega
  | succ j ih =>
    intro d h2 h1 hj ht
    show Fprime_Factor.l1_b k (Fprime_Factor.l1 k j) (Fprime_Factor.l1b k j) n d = _
    unfold Fprime_Factor.l1_b
    rw [wrap_sq (by omega) h1, Int.tmod_eq_emod_of_nonneg (by omega)]
    by_cases hd : d * d > n
    · rw [if_pos hd]
    · have hm : ¬ n % d = 0 := fun h => ht ⟨d, Int.le_refl _, by omega, h⟩
      have := small_d (d := d) (by omega) hn' (by omega)
      rw [if_neg hd, if_pos (by omega), if_neg hm, wrap_id (by omega) (by omega)]
      exact ih (d + 1) (by omega) (by omega) (by omega) (fun h => ht ((trial_step hm).2 h))

theorem factor_val (k : Nat) (hk : 150 ≤ k) (p : Int) (hp : oddPrime p) : Fprime_Factor k p = some ([Power.mk p 1], 0) := by
  obtain ⟨h1, h2, h3⟩ := hp
  unfold Fprime_Factor Fprime_Factor.b
  rw [if_neg (by omega), if_neg (by omega)]
  obtain ⟨m, rfl⟩ : ∃ m, k = m + 1 := ⟨k - 1, by omega⟩
  have e : Fprime_Factor.l0 (m + 1) (m + 1) p 2 = Fprime_Factor.l0_b (m + 1) (Fprime_Factor.l0 (m + 1) m) (Fprime_Factor.l0b (m + 1) m) p 2 := rfl
  rw [e]
  unfold Fprime_Factor.l0_b
  rw [if_pos (by omega), fac_loop (m + 1) p (by omega) h2 (m + 1) 2 (by omega) (by omega) (by omega) h3]
  rfl

/-- the symbol of a number that p does not divide -/
theorem symbols (k : Nat) (hk : 150 ≤ k) (p : Int) (hp : oddPrime p) (A : Int) (hA : A % p ≠ 0) :
    ∃ s, (s = 1 ∨ s = -1) ∧ Fprime_Kronecker k (A % p) p = some (s, 0) ∧ Fquadformref22_Legendre k A p = some s := by
  obtain ⟨h1, h2, h3⟩ := hp
  have a0 := Int.emod_nonneg A (show p ≠ 0 by omega)
  have a1 := Int.emod_lt_of_pos A (show 0 < p by omega)
  have aa : A % p % p = A % p := Int.emod_emod_of_dvd A (Int.dvd_refl p)
  have he : IntKind.wrap .i64 (Int.tdiv (IntKind.wrap .i64 (p - 1)) 2) = (p - 1) / 2 := by
    rw [wrap_id (x := p - 1) (by omega) (by omega), Int.tdiv_eq_ediv_of_nonneg (by omega), wrap_id (by omega) (by omega)]
  have h13 : (2 : Int) ^ 13 = 8192 := by decide
  obtain ⟨q, q0, q1, q2, q3⟩ := pow_loop k p ⟨h1, h2, h3⟩ 13 ((p - 1) / 2) (A % p) 1 k (by omega) (by rw [h13]; omega) (by omega) (by omega) (by omega) a1 (by omega) (by omega)
  have hs : ∃ s, (s = 1 ∨ s = -1) ∧ s = (if q = 1 then 1 else -1) := by
    by_cases h : q = 1
    · exact ⟨1, .inl rfl, (if_pos h).symm⟩
    · exact ⟨-1, .inr rfl, (if_neg h).symm⟩
  obtain ⟨s, s1, s2⟩ := hs
  refine ⟨s, s1, ?_, ?_⟩
  · have hsym : Fprime_symbol k (A % p) p = some s := by
      unfold Fprime_symbol Fprime_symbol.b
      rw [if_neg (by omega), resP k _ p h1 h2, Option.bind_some, aa, if_neg hA, he, q2, Option.bind_some]
      unfold Fprime_symbol.c3
      rw [s2]
      split <;> rfl
    have hb1 : Fprime_beyond k (A % p) = some false := by
      unfold Fprime_beyond Fprime_beyond.b
      rw [if_neg (by omega), decide_eq_false (by omega)]
    have hb2 : Fprime_beyond k p = some false := by
      unfold Fprime_beyond Fprime_beyond.b
      rw [if_neg (by omega), decide_eq_false (by omega)]
    unfold Fprime_Kronecker Fprime_Kronecker.b
    rw [hb1, Option.bind_some, if_neg (by simp), hb2, Option.bind_some, if_neg (by simp), if_neg (by omega), if_neg (by omega)]
    unfold Fprime_Kronecker.c0
    rw [factor_val k hk p ⟨h1, h2, h3⟩, Option.bind_some]
    obtain ⟨m, rfl⟩ : ∃ m, k = m + 2 := ⟨k - 2, by omega⟩
    have e : Fprime_Kronecker.l0 (m + 2) (m + 2) (A % p) 1 [Power.mk p 1] (([Power.mk p 1]).length : Int) 0 = Fprime_Kronecker.l0_b (m + 2) (Fprime_Kronecker.l0 (m + 2) (m + 1)) (A % p) 1 [Power.mk p 1] (([Power.mk p 1]).length : Int) 0 := rfl
    have e2 : Fprime_Kronecker.l0 (m + 2) (m + 1) (A % p) s [Power.mk p 1] 1 1 = Fprime_Kronecker.l0_b (m + 2) (Fprime_Kronecker.l0 (m + 2) m) (A % p) s [Power.mk p 1] 1 1 := rfl
    have hw1 : IntKind.wrap .i64 (1 * s) = s := by rw [Int.one_mul]; exact wrap_id (by omega) (by omega)
    have hw2 : IntKind.wrap .i64 (0 + 1) = 1 := rfl
    dsimp only
    rw [e]
    unfold Fprime_Kronecker.l0_b
    rw [if_pos (by simp), show elt [Power.mk p 1] 0 = some (Power.mk p 1) from rfl, Option.bind_some]
    dsimp only
    rw [hsym, Option.bind_some, if_neg (by omega), if_pos (show Int.tmod 1 2 = 1 by decide), hw1, hw2]
    have e3 : (([Power.mk p 1] : List Power).length : Int) = 1 := rfl
    rw [e3, e2]
    unfold Fprime_Kronecker.l0_b
    rw [if_neg (by omega)]
    rfl
  · unfold Fquadformref22_Legendre Fquadformref22_Legendre.b Fquadformref22_ModPow Fquadformref22_ModPow.b
    have h1p : Int.tmod 1 p = 1 := by rw [Int.tmod_eq_emod_of_nonneg (by omega), Int.emod_eq_of_lt (by omega) (by omega)]
    rw [if_pos (by omega), resM k A p h1 h2, Option.bind_some, he, h1p, q3, Option.bind_some]
    show (Fquadformref22_ModPow.c1 k q).bind _ = _
    unfold Fquadformref22_ModPow.c1
    rw [Option.bind_some, if_neg (by omega), s2]
    split <;> rfl

theorem symbol0 (k : Nat) (hk : 150 ≤ k) (p : Int) (hp : oddPrime p) (A : Int) (hA : A % p = 0) : Fprime_Kronecker k (A % p) p = some (0, 0) := by
  obtain ⟨h1, h2, h3⟩ := hp
  rw [hA]
  have hsym : Fprime_symbol k 0 p = some 0 := by
    unfold Fprime_symbol Fprime_symbol.b
    rw [if_neg (by omega), resP k _ p h1 h2, Option.bind_some, if_pos (by simp)]
  have hb1 : Fprime_beyond k 0 = some false := by
    unfold Fprime_beyond Fprime_beyond.b
    rw [if_neg (by omega), decide_eq_false (by omega)]
  have hb2 : Fprime_beyond k p = some false := by
    unfold Fprime_beyond Fprime_beyond.b
    rw [if_neg (by omega), decide_eq_false (by omega)]
  unfold Fprime_Kronecker Fprime_Kronecker.b
  rw [hb1, Option.bind_some, if_neg (by simp), hb2, Option.bind_some, if_neg (by simp), if_neg (by omega), if_neg (by omega)]
  unfold Fprime_Kronecker.c0
  rw [factor_val k hk p ⟨h1, h2, h3⟩, Option.bind_some]
  obtain ⟨m, rfl⟩ : ∃ m, k = m + 2 := ⟨k - 2, by omega⟩
  have e : Fprime_Kronecker.l0 (m + 2) (m + 2) 0 1 [Power.mk p 1] (([Power.mk p 1]).length : Int) 0 = Fprime_Kronecker.l0_b (m + 2) (Fprime_Kronecker.l0 (m + 2) (m + 1)) 0 1 [Power.mk p 1] (([Power.mk p 1]).length : Int) 0 := rfl
  dsimp only
  rw [e]
  unfold Fprime_Kronecker.l0_b
  rw [if_pos (by simp), show elt [Power.mk p 1] 0 = some (Power.mk p 1) from rfl, Option.bind_some]
  dsimp only
  rw [hsym, Option.bind_some, if_pos rfl]
  rfl

end Go.Cn
