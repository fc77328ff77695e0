/- Symbols that are made: odd ones. -/
import Derived.Test.YtgbijhccgmmkgabGreatDoorTf13m6
import Derived.Test.YtgbijhccgmmkgabGreatDoorTa4
set_option linter.unusedVariables false
noncomputable section
open Classical
namespace Go.Cn

theorem oddPrimeS (k : Nat) (a : Int) (h0 : 0 ≤ a) : ∃ q, F51 k a = some q ∧ (q = 3 ∨ q = 5 ∨ q = 7 ∨ q = 11 ∨ q = 13 ∨ q = 17 ∨ q = 19 ∨ q = 23) := by
  unfold F51 F51.b
  rw [Int.tmod_eq_emod_of_nonneg h0]
  have h1 : a % 8 = 0 ∨ a % 8 = 1 ∨ a % 8 = 2 ∨ a % 8 = 3 ∨ a % 8 = 4 ∨ a % 8 = 5 ∨ a % 8 = 6 ∨ a % 8 = 7 := by omega
  rcases h1 with h | h | h | h | h | h | h | h <;> rw [h] <;> exact ⟨_, rfl, by decide⟩

theorem local_valA (k : Nat) (M : Int) (hM : 1 ≤ M) (hM8 : M ≤ 8) (pr : Int) (D : List A5u8) (hp : okI .u8 pr) (hD : D.length ≤ 100) (hok : ∀ a ∈ D, um3 a) (hk : D.length + 5 < k) :
    ∃ q o, F55 k pr D M = some (q, o) ∧ (q = 3 ∨ q = 5 ∨ q = 7 ∨ q = 11 ∨ q = 13 ∨ q = 17 ∨ q = 19 ∨ q = 23) ∧ ordR o ∧ (∀ c ∈ o, bare c) ∧ dims o ≤ M := by
  unfold F55 F55.b
  obtain ⟨q, hq, hodd⟩ := oddPrimeS k pr (u8sym hp).1
  obtain ⟨o, x, t, ho, h1, h2, h3⟩ := list_valA k M hM hM8 false pr D hD hok hk
  rw [hq, Option.bind_some, ho]
  exact ⟨q, o, rfl, hodd, mkA_ord h3 h1, h3.odd rfl, by rw [h3.sum]; exact h2⟩

end Go.Cn
