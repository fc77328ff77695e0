/- Legal constituents: what the program computes. -/
import Derived.Test.YtgbijhccgmmkgabGreatDoorTf13m0
import Derived.Test.YtgbijhccgmmkgabGreatDoorTa3a
set_option linter.unusedVariables false
noncomputable section
open Classical
namespace Go.Cn

def scS (c : ua0) : Prop := 0 ≤ c.Exp ∧ c.Exp ≤ 60 ∧ 1 ≤ c.Dim ∧ c.Dim ≤ 8 ∧ (c.Sign = 1 ∨ c.Sign = -1)
theorem scaled_val (k : Nat) (c : ua0) : F47 k c.Exp c.Dim c.Sign c.Odd c.Oddity = some (decide (scS c)) := by
  unfold F47 F47.b
  have hP : scS c ↔ (0 ≤ c.Exp ∧ c.Exp ≤ 60 ∧ 1 ≤ c.Dim ∧ c.Dim ≤ 8 ∧ (c.Sign = 1 ∨ c.Sign = -1)) := Iff.rfl
  by_cases h1 : c.Exp ≥ 0
  case neg => rw [if_neg h1]; exact leafF hP (by omega)
  rw [if_pos h1]
  by_cases h2 : c.Exp ≤ 60
  case neg => rw [if_neg h2]; exact leafF hP (by omega)
  rw [if_pos h2]
  by_cases h3 : c.Dim ≥ 1
  case neg => rw [if_neg h3]; exact leafF hP (by omega)
  rw [if_pos h3]
  by_cases h4 : c.Dim ≤ 8
  case neg => rw [if_neg h4]; exact leafF hP (by omega)
  rw [if_pos h4]
  by_cases h5 : c.Sign = 1
  · rw [if_pos h5]; exact leafT hP (by omega)
  · rw [if_neg h5]; exact leafE hP (by omega)

theorem leafB {P Q : Prop} {a b a' b' : Int} (h : P ↔ Q) (hq : Q ↔ (a = b ↔ a' = b')) : some ((a == b) == (a' == b')) = some (decide P) := by
  have e1 : (a == b) = decide (a = b) := rfl
  have e2 : (a' == b') = decide (a' = b') := rfl
  rw [e1, e2]
  by_cases hp : P
  · rw [decide_eq_true hp]
    have := hq.1 (h.1 hp)
    by_cases h1 : a = b
    · rw [decide_eq_true h1, decide_eq_true (this.1 h1)]; rfl
    · rw [decide_eq_false h1, decide_eq_false (fun e => h1 (this.2 e))]; rfl
  · rw [decide_eq_false hp]
    by_cases h1 : a = b
    · by_cases h2 : a' = b'
      · exact absurd (h.2 (hq.2 ⟨fun _ => h2, fun _ => h1⟩)) hp
      · rw [decide_eq_true h1, decide_eq_false h2]; rfl
    · by_cases h2 : a' = b'
      · rw [decide_eq_false h1, decide_eq_true h2]; rfl
      · exact absurd (h.2 (hq.2 ⟨fun e => absurd e h1, fun e => absurd e h2⟩)) hp
theorem leafC {P Q : Prop} {a' b' : Int} (h : P ↔ Q) (hq : Q ↔ a' = b') : some (true == (a' == b')) = some (decide P) := by
  rw [← leafE h hq]; simp
theorem leafM {P Q : Prop} {a' b' : Int} (h : P ↔ Q) (hq : Q ↔ ¬ a' = b') : some (!(a' == b')) = some (decide P) := leafN h hq

theorem legalP_val (k : Nat) (c : ua0) : F29 k c.Exp c.Dim c.Sign c.Odd c.Oddity = some (decide (legalS c)) := by
  unfold F29 F29.b
  rw [scaled_val, Option.bind_some]
  by_cases hs : scS c
  case neg => rw [if_neg (by simpa using hs), decide_eq_false (p := legalS c) (fun h => hs ⟨h.1, h.2.1, h.2.2.1, h.2.2.2.1, h.2.2.2.2.1⟩)]
  rw [if_pos (by simpa using hs)]
  obtain ⟨E, D, S, O, Y⟩ := c
  obtain ⟨b1, b2, b3, b4, b5⟩ := hs
  dsimp only at b1 b2 b3 b4 b5 ⊢
  by_cases y1 : Y < 0
  · rw [if_pos y1, decide_eq_false (p := legalS ⟨E, D, S, O, Y⟩) (fun h => by have := h.2.2.2.2.2.1; dsimp only at this; omega)]
  rw [if_neg y1]
  by_cases y2 : Y > 7
  · rw [if_pos y2, decide_eq_false (p := legalS ⟨E, D, S, O, Y⟩) (fun h => by have := h.2.2.2.2.2.2.1; dsimp only at this; omega)]
  rw [if_neg y2]
  have hw : IntKind.wrap .i64 (Y - D) = Y - D := uc5 (by omega) (by omega)
  rw [hw]
  simp only [uo8]
  cases O with
  | false =>
    have hP := legalS_even E D S Y
    unfold legE at hP
    rw [if_neg (by decide)]
    by_cases h : D % 2 = 0
    · rw [if_pos h]; exact leafE hP (by omega)
    · rw [if_neg h]; exact leafF hP (by omega)
  | true =>
    have hP := up1 E D S Y
    unfold legO at hP
    rw [if_pos rfl]
    by_cases h : (Y - D) % 2 = 0
    case neg => rw [if_neg h]; exact leafF hP (by omega)
    rw [if_pos h]
    by_cases d1 : D = 1
    · rw [if_pos d1]
      by_cases q1 : Y = 1
      · rw [if_pos q1]; exact leafC hP (by omega)
      · rw [if_neg q1]; exact leafB hP (by omega)
    · rw [if_neg d1]
      by_cases d2 : D = 2
      case neg => rw [if_neg d2]; exact leafT hP (by omega)
      rw [if_pos d2]
      by_cases s1 : S = 1
      · rw [if_pos s1]
        by_cases q4 : Y = 4
        · rw [if_pos q4]; exact leafF hP (by omega)
        · rw [if_neg q4, if_neg (by omega)]; exact leafT hP (by omega)
      · rw [if_neg s1, if_pos (by omega)]; exact leafM hP (by omega)

end Go.Cn
