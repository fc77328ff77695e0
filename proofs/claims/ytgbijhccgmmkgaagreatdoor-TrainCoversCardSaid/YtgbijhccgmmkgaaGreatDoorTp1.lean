/- The law of compartments and trains. -/
import Derived.Test.YtgbijhccgmmkgaaGreatDoorTf11m19
import Derived.Test.YtgbijhccgmmkgaaGreatDoorTf11m26
import Derived.Test.YtgbijhccgmmkgaaGreatDoorTf11m3
import Derived.Test.YtgbijhccgmmkgaaGreatDoorTf11m7
import Derived.Test.YtgbijhccgmmkgaaGreatDoorTc2
import Derived.Test.YtgbijhccgmmkgaaGreatDoorTd2
import Derived.Test.YtgbijhccgmmkgaaGreatDoorSo1
set_option linter.unusedVariables false
noncomputable section
open Classical
namespace Go.Cn

def pickS (p : Int) (L : List Constituent) (P : List (List Int)) : List (List Int) × Bool := if p = 2 ∧ (raw2 L ∨ fusedS L) then (P, true) else ([], false)
theorem compP_val (k : Nat) (hk : 1100 ≤ k) (p : Int) (L : List Constituent) (hL : L.length ≤ 900) : F41 k p L = some (pickS p L (partsS L)) := by
  unfold F41 F41.b pickS
  rw [validT_val k (by omega) p L (by omega) (by omega), Option.bind_some]
  by_cases h : p = 2 ∧ raw2 L
  · rw [if_pos (by simpa using h), compartments_val k p L (by omega) (by omega) (ord_exp h.2.1), if_pos ⟨h.1, .inl h.2⟩]; rfl
  rw [if_neg (by simpa using h), fusedP_val k hk p L hL, Option.bind_some]
  by_cases h' : p = 2 ∧ fusedS L
  · rw [if_pos (by simpa using h'), compartments_val k p L (by omega) (by omega) (ord_exp h'.2.1), if_pos ⟨h'.1, .inr h'.2⟩]; rfl
  · rw [if_neg (by simpa using h'), if_neg (fun g => by
      rcases g.2 with g2 | g2
      · exact h ⟨g.1, g2⟩
      · exact h' ⟨g.1, g2⟩)]
theorem trainP_val (k : Nat) (hk : 1100 ≤ k) (p : Int) (L : List Constituent) (hL : L.length ≤ 900) : F47 k p L = some (pickS p L (trS L)) := by
  unfold F47 F47.b pickS
  rw [validT_val k (by omega) p L (by omega) (by omega), Option.bind_some]
  by_cases h : p = 2 ∧ raw2 L
  · rw [if_pos (by simpa using h), collect1_val k p L (by omega) (by omega) (ord_exp h.2.1), if_pos ⟨h.1, .inl h.2⟩]; rfl
  rw [if_neg (by simpa using h), fusedP_val k hk p L hL, Option.bind_some]
  by_cases h' : p = 2 ∧ fusedS L
  · rw [if_pos (by simpa using h'), collect1_val k p L (by omega) (by omega) (ord_exp h'.2.1), if_pos ⟨h'.1, .inr h'.2⟩]; rfl
  · rw [if_neg (by simpa using h'), if_neg (fun g => by
      rcases g.2 with g2 | g2
      · exact h ⟨g.1, g2⟩
      · exact h' ⟨g.1, g2⟩)]
end Go.Cn
