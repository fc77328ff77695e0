/- Legal constituents: what the document asks. -/
import Derived.Test.YtgbijhccgmmkgabGreatDoorTf13m6
import Derived.Test.YtgbijhccgmmkgabGreatDoorPl1
set_option linter.unusedVariables false
noncomputable section
open Classical
namespace Go.Cn

def legalS (c : ua0) : Prop := 0 ≤ c.Exp ∧ c.Exp ≤ 60 ∧ 1 ≤ c.Dim ∧ c.Dim ≤ 8 ∧ (c.Sign = 1 ∨ c.Sign = -1) ∧ 0 ≤ c.Oddity ∧ c.Oddity ≤ 7 ∧
  (c.Odd = true → (c.Oddity - c.Dim) % 2 = 0 ∧ (c.Dim = 1 → (c.Sign = 1 → c.Oddity = 1 ∨ c.Oddity = 7) ∧ (c.Sign = -1 → c.Oddity = 3 ∨ c.Oddity = 5)) ∧ (c.Dim = 2 → (c.Sign = 1 → c.Oddity ≠ 4) ∧ (c.Sign = -1 → c.Oddity ≠ 0))) ∧
  (c.Odd = false → c.Dim % 2 = 0 ∧ c.Oddity = 0)

def legO (E D S Y : Int) : Prop := 0 ≤ E ∧ E ≤ 60 ∧ 1 ≤ D ∧ D ≤ 8 ∧ (S = 1 ∨ S = -1) ∧ 0 ≤ Y ∧ Y ≤ 7 ∧ (Y - D) % 2 = 0 ∧ (D = 1 → (S = 1 → Y = 1 ∨ Y = 7) ∧ (S = -1 → Y = 3 ∨ Y = 5)) ∧ (D = 2 → (S = 1 → Y ≠ 4) ∧ (S = -1 → Y ≠ 0))
def legE (E D S Y : Int) : Prop := 0 ≤ E ∧ E ≤ 60 ∧ 1 ≤ D ∧ D ≤ 8 ∧ (S = 1 ∨ S = -1) ∧ 0 ≤ Y ∧ Y ≤ 7 ∧ D % 2 = 0 ∧ Y = 0
theorem up1 (E D S Y : Int) : legalS ⟨E, D, S, true, Y⟩ ↔ legO E D S Y := by
  unfold legalS legO
  simp
theorem legalS_even (E D S Y : Int) : legalS ⟨E, D, S, false, Y⟩ ↔ legE E D S Y := by
  unfold legalS legE
  simp

theorem leafF {P Q : Prop} (h : P ↔ Q) (hq : ¬ Q) : (some false : Option Bool) = some (decide P) := by rw [decide_eq_false (fun p => hq (h.1 p))]
theorem leafT {P Q : Prop} (h : P ↔ Q) (hq : Q) : (some true : Option Bool) = some (decide P) := by rw [decide_eq_true (h.2 hq)]
theorem leafE {P Q : Prop} {a b : Int} (h : P ↔ Q) (hq : Q ↔ a = b) : some (a == b) = some (decide P) := by
  by_cases hab : a = b
  · rw [decide_eq_true (h.2 (hq.2 hab))]; simpa using hab
  · rw [decide_eq_false (fun p => hab (hq.1 (h.1 p)))]; simpa using hab
theorem leafN {P Q : Prop} {a b : Int} (h : P ↔ Q) (hq : Q ↔ ¬ a = b) : some (a != b) = some (decide P) := by
  by_cases hab : a = b
  · rw [decide_eq_false (fun p => hq.1 (h.1 p) hab)]; simpa using hab
  · rw [decide_eq_true (h.2 (hq.2 hab))]; simpa using hab

theorem legalR_val (k : Nat) (c : ua0) : F25 k c.Exp c.Dim c.Sign c.Odd c.Oddity = some (decide (legalS c)) := by
  obtain ⟨E, D, S, O, Y⟩ := c
  show F25.b k E D S O Y = _
  unfold F25.b
  by_cases hb : 0 ≤ E ∧ E ≤ 60 ∧ 1 ≤ D ∧ D ≤ 8 ∧ 0 ≤ Y ∧ Y ≤ 7
  · obtain ⟨b1, b2, b3, b4, b5, b6⟩ := hb
    have hw : IntKind.wrap .i64 (Y - D) = Y - D := ud0 (by omega) (by omega)
    rw [hw]
    simp only [ug9]
    have n1 : ¬ E < 0 := by omega
    have n2 : ¬ E > 60 := by omega
    have n3 : ¬ D < 1 := by omega
    have n4 : ¬ D > 8 := by omega
    have n5 : ¬ Y < 0 := by omega
    have n6 : ¬ Y > 7 := by omega
    rw [if_neg n1, if_neg n2, if_neg n3, if_neg n4, if_neg n5, if_neg n6]
    cases O with
    | true =>
      have hP := up1 E D S Y
      unfold legO at hP
      rw [if_pos rfl]
      by_cases h : (Y - D) % 2 = 0
      · rw [if_pos h]
        by_cases s1 : S = 1
        · rw [if_pos s1]
          by_cases d1 : D = 1
          · rw [if_pos d1, if_pos s1]
            by_cases y1 : Y = 1
            · rw [if_pos y1]; exact leafT hP (by omega)
            · rw [if_neg y1]; exact leafE hP (by omega)
          · rw [if_neg d1, if_neg d1]
            by_cases d2 : D = 2
            · rw [if_pos d2, if_pos s1]; exact leafN hP (by omega)
            · rw [if_neg d2, if_neg d2]; exact leafT hP (by omega)
        · rw [if_neg s1]
          by_cases s2 : S = -1
          · rw [if_pos s2]
            by_cases d1 : D = 1
            · rw [if_pos d1, if_neg s1, if_pos d1]
              by_cases y1 : Y = 3
              · rw [if_pos y1]; exact leafT hP (by omega)
              · rw [if_neg y1]; exact leafE hP (by omega)
            · rw [if_neg d1, if_neg d1]
              by_cases d2 : D = 2
              · rw [if_pos d2, if_neg s1, if_pos d2]; exact leafN hP (by omega)
              · rw [if_neg d2, if_neg d2]; exact leafT hP (by omega)
          · rw [if_neg s2]; exact leafF hP (by omega)
      · rw [if_neg h]
        by_cases s1 : S = 1
        · rw [if_pos s1]; exact leafF hP (by omega)
        · rw [if_neg s1]
          by_cases s2 : S = -1
          · rw [if_pos s2]; exact leafF hP (by omega)
          · rw [if_neg s2]; exact leafF hP (by omega)
    | false =>
      have hP := legalS_even E D S Y
      unfold legE at hP
      have hf : ¬ (false = true) := by decide
      by_cases s1 : S = 1
      · rw [if_pos s1, if_neg hf]
        by_cases h : D % 2 = 0
        · rw [if_pos h]; exact leafE hP (by omega)
        · rw [if_neg h]; exact leafF hP (by omega)
      · rw [if_neg s1]
        by_cases s2 : S = -1
        · rw [if_pos s2, if_neg hf]
          by_cases h : D % 2 = 0
          · rw [if_pos h]; exact leafE hP (by omega)
          · rw [if_neg h]; exact leafF hP (by omega)
        · rw [if_neg s2]; exact leafF hP (by omega)
  · have hn : ¬ legalS ⟨E, D, S, O, Y⟩ := fun h => hb ⟨h.1, h.2.1, h.2.2.1, h.2.2.2.1, h.2.2.2.2.2.1, h.2.2.2.2.2.2.1⟩
    rw [decide_eq_false hn]
    by_cases c1 : E < 0
    · rw [if_pos c1]
    rw [if_neg c1]
    by_cases c2 : E > 60
    · rw [if_pos c2]
    rw [if_neg c2]
    by_cases c3 : D < 1
    · rw [if_pos c3]
    rw [if_neg c3]
    by_cases c4 : D > 8
    · rw [if_pos c4]
    rw [if_neg c4]
    by_cases c5 : Y < 0
    · by_cases s1 : S = 1
      · rw [if_pos s1, if_pos c5]
      · rw [if_neg s1, if_pos c5]; split <;> rfl
    · have c6 : Y > 7 := by omega
      by_cases s1 : S = 1
      · rw [if_pos s1, if_neg c5, if_pos c6]
      · rw [if_neg s1, if_neg c5, if_pos c6]; split <;> rfl

end Go.Cn
