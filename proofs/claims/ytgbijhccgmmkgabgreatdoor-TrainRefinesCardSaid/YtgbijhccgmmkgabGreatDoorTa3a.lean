/- Legal constituents: what the document asks. -/
import Derived.Test.YtgbijhccgmmkgabGreatDoorTf13m6
import Derived.Test.YtgbijhccgmmkgabGreatDoorPl1
set_option linter.unusedVariables false
noncomputable section
open Classical
namespace Go.Cn

def legalS (c : ua0) : Prop := 0 ≤ c.Exp ∧ c.Exp ≤ 60 ∧ 1 ≤ c.Dim ∧ c.Dim ≤ 8 ∧ (c.Sign = 1 ∨ c.Sign = -1) ∧ 0 ≤ c.Oddity ∧ c.Oddity ≤ 7 ∧
  (c.Odd = true → (c.Oddity - c.Dim) % 2 = 0 ∧ (c.Dim = 1 → (c.Sign = 1 → c.Oddity = 1 ∨ c.Oddity = 7) ∧ (c.Sign = -1 → c.Oddity = 3 ∨ c.Oddity = 5)) ∧ (c.Dim = 2 → (c.Sign = 1 → c.Oddity ≠ 4) ∧ (c.Sign = -1 → c.Oddity ≠ 0))) ∧
  (c.Odd = false → c.Dim % 2 = 0 ∧ c.Oddity = 0)

def legO (E D S Y : Int) : Prop := 0 ≤ E ∧ E ≤ 60 ∧ 1 ≤ D ∧ D ≤ 8 ∧ (S = 1 ∨ S = -1) ∧ 0 ≤ Y ∧ Y ≤ 7 ∧ (Y - D) % 2 = 0 ∧ (D = 1 → (S = 1 → Y = 1 ∨ Y = 7) ∧ (S = -1 → Y = 3 ∨ Y = 5)) ∧ (D = 2 → (S = 1 → Y ≠ 4) ∧ (S = -1 → Y ≠ 0))
def legE (E D S Y : Int) : Prop := 0 ≤ E ∧ E ≤ 60 ∧ 1 ≤ D ∧ D ≤ 8 ∧ (S = 1 ∨ S = -1) ∧ 0 ≤ Y ∧ Y ≤ 7 ∧ D % 2 = 0 ∧ Y = 0
theorem up1 (E D S Y : Int) : legalS ⟨E, D, S, true, Y⟩ ↔ legO E D S Y := by
  unfold legalS legO
  simp
theorem legalS_even (E D S Y : Int) : legalS ⟨E, D, S, false, Y⟩ ↔ legE E D S Y := by
  unfold legalS legE
  simp

theorem leafF {P Q : Prop} (h : P ↔ Q) (hq : ¬ Q) : (some false : Option Bool) = some (decide P) := by rw [decide_eq_false (fun p => hq (h.1 p))]
theorem leafT {P Q : Prop} (h : P ↔ Q) (hq : Q) : (some true : Option Bool) = some (decide P) := by rw [decide_eq_true (h.2 hq)]
theorem leafE {P Q : Prop} {a b : Int} (h : P ↔ Q) (hq : Q ↔ a = b) : some (a == b) = some (decide P) := by
  by_cases hab : a = b
  · rw [decide_eq_true (h.2 (hq.2 hab))]; simpa using hab
  · rw [decide_eq_false (fun p => hab (hq.1 (h.1 p)))]; simpa using hab
theorem leafN {P Q : Prop} {a b : Int} (h : P ↔ Q) (hq : Q ↔ ¬ a = b) : some (a != b) = some (decide P) := by
  by_cases hab : a = b
  · rw [decide_eq_false (fun p => hq.1 (h.1 p) hab)]; simpa using hab
  · rw [decide_eq_true (h.2 (hq.2 hab))]; simpa using hab

end Go.Cn
