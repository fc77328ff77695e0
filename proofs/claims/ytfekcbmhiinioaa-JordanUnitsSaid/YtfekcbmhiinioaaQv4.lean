/- The plain law of JordanUnits: the eight primes. -/
import Derived.Test.YtfekcbmhiinioaaQv3
import Derived.KernelRfl
set_option linter.unusedVariables false
noncomputable section
namespace Go.Cn

def eight : List Int := [3, 5, 7, 11, 13, 17, 19, 23]
def okTab (p : Int) : Bool :=
  (List.range p.toNat).all fun a => Nat.beq a 0 || ((List.range p.toNat).all fun c => Nat.beq c 0 ||
    (decide (leg 300 p (((a : Int) * ((c : Int) * (c : Int))) % p) = leg 300 p (a : Int)) &&
     decide (leg 300 p (((a : Int) * ((c : Int) * (c : Int)) * (c : Int)) % p) = leg 300 p (a : Int) * leg 300 p (c : Int)) &&
     decide (leg 300 p (c : Int) * leg 300 p (c : Int) = 1)))
theorem tabs : eight.all okTab = true := by kernel_rfl

theorem eight_cases {p : Int} (h : p ∈ eight) : p = 3 ∨ p = 5 ∨ p = 7 ∨ p = 11 ∨ p = 13 ∨ p = 17 ∨ p = 19 ∨ p = 23 := by
  simpa [eight] using h

theorem eight_odd {p : Int} (h : p ∈ eight) : oddPrime p := by
  have key : ∀ e : Int, 2 ≤ e → e * e ≤ p → p % e = 0 → p ≤ 23 → (e = 2 ∨ e = 3 ∨ e = 4) := by
    intro e h1 h2 h3 h4
    have : e ≤ 4 := by
      rcases Int.lt_or_le 4 e with hh | hh
      · have := sq_le (d := 5) (m := e) (by decide) (by omega)
        omega
      · exact hh
    omega
  have hc := eight_cases h
  refine ⟨by omega, by omega, ?_⟩
  rintro ⟨e, h1, h2, h3⟩
  have he := key e h1 h2 h3 (by omega)
  rcases hc with rfl | rfl | rfl | rfl | rfl | rfl | rfl | rfl <;> rcases he with rfl | rfl | rfl <;> omega

theorem leg_mod (k : Nat) (p : Int) (hp : 2 < p) (hp' : p ≤ 9973) (A : Int) : leg k p A = leg k p (A % p) := by
  have hA : A % p % p = A % p := Int.emod_emod_of_dvd A (Int.dvd_refl p)
  unfold leg Fquadformref22_Legendre Fquadformref22_Legendre.b Fquadformref22_ModPow Fquadformref22_ModPow.b
  rw [resM k A p hp hp', resM k (A % p) p hp hp', hA]

theorem leg_tab {p : Int} (h : p ∈ eight) (A c : Int) (hA : ¬ A % p = 0) (c0 : 1 ≤ c) (cp : c < p) :
    leg 300 p (A * (c * c)) = leg 300 p A ∧ leg 300 p (A * (c * c) * c) = leg 300 p A * leg 300 p c ∧ leg 300 p c * leg 300 p c = 1 := by
  have ho := eight_odd h
  obtain ⟨h1, h2, h3⟩ := ho
  have a0 := Int.emod_nonneg A (show p ≠ 0 by omega)
  have a1 := Int.emod_lt_of_pos A (show 0 < p by omega)
  have ht : okTab p = true := List.all_eq_true.1 tabs p h
  unfold okTab at ht
  have h4 := List.all_eq_true.1 ht (A % p).toNat (List.mem_range.2 (by omega))
  rw [Bool.or_eq_true] at h4
  rcases h4 with h4 | h4
  · have := Nat.eq_of_beq_eq_true h4
    omega
  have h5 := List.all_eq_true.1 h4 c.toNat (List.mem_range.2 (by omega))
  rw [Bool.or_eq_true] at h5
  rcases h5 with h5 | h5
  · have := Nat.eq_of_beq_eq_true h5
    omega
  have eA : (((A % p).toNat : Nat) : Int) = A % p := Int.toNat_of_nonneg a0
  have eC : ((c.toNat : Nat) : Int) = c := Int.toNat_of_nonneg (by omega)
  rw [eA, eC] at h5
  simp only [Bool.and_eq_true, decide_eq_true_eq] at h5
  obtain ⟨⟨g1, g2⟩, g3⟩ := h5
  have m1 : A % p * (c * c) % p = A * (c * c) % p := by rw [Int.mul_emod, Int.emod_emod_of_dvd A (Int.dvd_refl p), ← Int.mul_emod]
  have m2 : A % p * (c * c) * c % p = A * (c * c) * c % p := by
    rw [Int.mul_emod (A % p * (c * c)) c, m1, ← Int.mul_emod]
  rw [m1, ← leg_mod 300 p h1 h2, ← leg_mod 300 p h1 h2] at g1
  rw [m2, ← leg_mod 300 p h1 h2, ← leg_mod 300 p h1 h2 A] at g2
  exact ⟨g1, g2, g3⟩

end Go.Cn
