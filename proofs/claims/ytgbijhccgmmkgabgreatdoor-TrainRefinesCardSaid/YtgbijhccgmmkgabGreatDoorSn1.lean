/- Two equal lists of constituents are found to be the same. -/
import Derived.Test.YtgbijhccgmmkgabGreatDoorTf13m2
import Derived.Test.YtgbijhccgmmkgabGreatDoorTa1
set_option linter.unusedVariables false
noncomputable section
namespace Go.Cn

open F9 in
theorem same_loopS (k : Nat) (L : List ua0) (hL : L.length < 1000) : ∀ (r : List ua0) (j n : Nat), r.length < j → L.drop n = r → n ≤ L.length → F9.l0 k j L L (L.length : Int) (n : Int) = some .x0 := by
  intro r
  induction r with
  | nil =>
    intro j n hj hr hn
    obtain ⟨j, rfl⟩ : ∃ i, j = i + 1 := ⟨j - 1, by simp at hj; omega⟩
    have hn' := uh1 hr hn
    show l0_b k (l0 k j) _ _ _ _ = _
    unfold l0_b
    rw [if_neg (by omega)]
  | cons b r ih =>
    intro j n hj hr hn
    obtain ⟨j, rfl⟩ : ∃ i, j = i + 1 := ⟨j - 1, by simp at hj; omega⟩
    obtain ⟨g1, g2, g3, g4⟩ := ue8 hr
    show l0_b k (l0 k j) _ _ _ _ = _
    unfold l0_b
    have hw2 : IntKind.wrap .i64 ((n : Int) + 1) = ((n + 1 : Nat) : Int) := by rw [uc5 (by omega) (by omega)]; omega
    rw [if_pos (by omega), g2, Option.bind_some, Option.bind_some, if_pos rfl, hw2]
    exact ih j (n + 1) (by simp at hj; omega) g3 (by omega)

theorem same_selfS (k : Nat) (L : List ua0) (hL : L.length < 1000) (hk : L.length < k) : F9 k L L = some true := by
  unfold F9 F9.b
  rw [if_pos rfl]
  have := same_loopS k L hL L k 0 hk rfl (by omega)
  have e0 : ((0 : Nat) : Int) = 0 := rfl
  rw [e0] at this
  rw [this]
  rfl


theorem same_sym (k : Nat) (p : Int) (L : List ua0) (hL : L.length < 1000) (hk : L.length < k) : F14 k p L p L = some true := by
  unfold F14 F14.b
  rw [if_pos rfl, same_selfS k L hL hk]
  rfl

end Go.Cn
