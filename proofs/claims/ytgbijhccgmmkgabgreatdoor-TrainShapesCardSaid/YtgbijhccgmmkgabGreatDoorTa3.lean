/- Legal constituents and raw 2-adic symbols: what the document asks. -/
import Derived.Test.YtgbijhccgmmkgabGreatDoorTf13m6
import Derived.Test.YtgbijhccgmmkgabGreatDoorOr1
import Derived.Test.YtgbijhccgmmkgabGreatDoorTa2
import Derived.Test.YtgbijhccgmmkgabGreatDoorTa3a
set_option linter.unusedVariables false
noncomputable section
open Classical
namespace Go.Cn

/-- a raw list -/
def raw2 (L : List ua0) : Prop := ordR L ∧ ∀ c ∈ L, legalS c

open F35 in
theorem legal_loop (k : Nat) (L : List ua0) (hL : L.length ≤ 1000) : ∀ (r : List ua0) (j n : Nat), r.length < j → L.drop n = r → n ≤ L.length →
    l0 k j L (L.length : Int) (n : Int) = if (∀ c ∈ r, legalS c) then some .x0 else some (.ret false) := by
  intro r
  induction r with
  | nil =>
    intro j n hj hr hn
    obtain ⟨j, rfl⟩ : ∃ i, j = i + 1 := ⟨j - 1, by simp at hj; omega⟩
    have := uf4 hr hn
    show l0_b k (l0 k j) _ _ _ = _
    unfold l0_b; rw [if_neg (by omega), if_pos (fun c hc => absurd hc (by simp))]
  | cons c r ih =>
    intro j n hj hr hn
    obtain ⟨j, rfl⟩ : ∃ i, j = i + 1 := ⟨j - 1, by simp at hj; omega⟩
    obtain ⟨g1, g2, g3, g4⟩ := ue3 hr
    simp only [List.length_cons] at hj
    show l0_b k (l0 k j) _ _ _ = _
    unfold l0_b
    rw [if_pos (by omega), g2, Option.bind_some, legalR_val, Option.bind_some]
    by_cases hc : legalS c
    · rw [if_pos (by simpa using hc), uc4 (by omega), ih j (n + 1) (by omega) g3 (by omega)]
      have hiff : (∀ x ∈ c :: r, legalS x) ↔ (∀ x ∈ r, legalS x) := by
        constructor
        · intro h x hx; exact h x (by simp [hx])
        · intro h x hx
          rcases List.mem_cons.1 hx with rfl | hx
          · exact hc
          · exact h x hx
      simp only [hiff]
    · rw [if_neg (by simpa using hc), if_neg (fun h => hc (h c (by simp)))]

theorem valid2_val (k : Nat) (p : Int) (L : List ua0) (hL : L.length ≤ 1000) (hk : L.length < k) : F35 k p L = some (decide (p = 2 ∧ raw2 L)) := by
  unfold F35 F35.b
  by_cases hp : p = 2
  case neg => rw [if_neg hp, decide_eq_false (p := p = 2 ∧ raw2 L) (fun h => hp h.1)]
  rw [if_pos hp, order_val k L hL hk, Option.bind_some]
  by_cases ho : ordR L
  case neg => rw [if_neg (by simpa using ho), decide_eq_false (p := p = 2 ∧ raw2 L) (fun h => ho h.2.1)]
  have key := legal_loop k L hL L k 0 hk rfl (by omega)
  have e0 : ((0 : Nat) : Int) = 0 := rfl
  rw [e0] at key
  rw [if_pos (by simpa using ho), key]
  by_cases hl : ∀ c ∈ L, legalS c
  · rw [if_pos hl, decide_eq_true (p := p = 2 ∧ raw2 L) ⟨hp, ho, hl⟩]; rfl
  · rw [if_neg hl, decide_eq_false (p := p = 2 ∧ raw2 L) (fun h => hl h.2.2)]; rfl

end Go.Cn
