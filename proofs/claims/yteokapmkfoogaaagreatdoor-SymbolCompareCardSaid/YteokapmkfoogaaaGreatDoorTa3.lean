/- Legal constituents and raw 2-adic symbols: what the document asks. -/
import Derived.Test.YteokapmkfoogaaaGreatDoorOr1
import Derived.Test.YteokapmkfoogaaaGreatDoorTa2
set_option linter.unusedVariables false
noncomputable section
open Classical
namespace Go.Cn

def legalS (c : Constituent) : Prop := 0 ≤ c.Exp ∧ c.Exp ≤ 60 ∧ 1 ≤ c.Dim ∧ c.Dim ≤ 8 ∧ (c.Sign = 1 ∨ c.Sign = -1) ∧ 0 ≤ c.Oddity ∧ c.Oddity ≤ 7 ∧
  (c.Odd = true → (c.Oddity - c.Dim) % 2 = 0 ∧ (c.Dim = 1 → (c.Sign = 1 → c.Oddity = 1 ∨ c.Oddity = 7) ∧ (c.Sign = -1 → c.Oddity = 3 ∨ c.Oddity = 5)) ∧ (c.Dim = 2 → (c.Sign = 1 → c.Oddity ≠ 4) ∧ (c.Sign = -1 → c.Oddity ≠ 0))) ∧
  (c.Odd = false → c.Dim % 2 = 0 ∧ c.Oddity = 0)

def legO (E D S Y : Int) : Prop := 0 ≤ E ∧ E ≤ 60 ∧ 1 ≤ D ∧ D ≤ 8 ∧ (S = 1 ∨ S = -1) ∧ 0 ≤ Y ∧ Y ≤ 7 ∧ (Y - D) % 2 = 0 ∧ (D = 1 → (S = 1 → Y = 1 ∨ Y = 7) ∧ (S = -1 → Y = 3 ∨ Y = 5)) ∧ (D = 2 → (S = 1 → Y ≠ 4) ∧ (S = -1 → Y ≠ 0))
def legE (E D S Y : Int) : Prop := 0 ≤ E ∧ E ≤ 60 ∧ 1 ≤ D ∧ D ≤ 8 ∧ (S = 1 ∨ S = -1) ∧ 0 ≤ Y ∧ Y ≤ 7 ∧ D % 2 = 0 ∧ Y = 0
theorem legalS_odd (E D S Y : Int) : legalS ⟨E, D, S, true, Y⟩ ↔ legO E D S Y := by
  unfold legalS legO
  simp
theorem legalS_even (E D S Y : Int) : legalS ⟨E, D, S, false, Y⟩ ↔ legE E D S Y := by
  unfold legalS legE
  simp

theorem leafF {P Q : Prop} (h : P ↔ Q) (hq : ¬ Q) : (some false : Option Bool) = some (decide P) := by rw [decide_eq_false (fun p => hq (h.1 p))]
theorem leafT {P Q : Prop} (h : P ↔ Q) (hq : Q) : (some true : Option Bool) = some (decide P) := by rw [decide_eq_true (h.2 hq)]
theorem leafE {P Q : Prop} {a b : Int} (h : P ↔ Q) (hq : Q ↔ a = b) : some (a == b) = some (decide P) := by
  by_cases hab : a = b
  · rw [decide_eq_true (h.2 (hq.2 hab))]; simpa using hab
  · rw [decide_eq_false (fun p => hab (hq.1 (h.1 p)))]; simpa using hab
theorem leafN {P Q : Prop} {a b : Int} (h : P ↔ Q) (hq : Q ↔ ¬ a = b) : some (a != b) = some (decide P) := by
  by_cases hab : a = b
  · rw [decide_eq_false (fun p => hq.1 (h.1 p) hab)]; simpa using hab
  · rw [decide_eq_true (h.2 (hq.2 hab))]; simpa using hab

theorem legalR_val (k : Nat) (c : Constituent) : Fquadformref26_Legal k c.Exp c.Dim c.Sign c.Odd c.Oddity = some (decide (legalS c)) := by
  obtain ⟨E, D, S, O, Y⟩ := c
  show Fquadformref26_Legal.b k E D S O Y = _
  unfold Fquadformref26_Legal.b
  by_cases hb : 0 ≤ E ∧ E ≤ 60 ∧ 1 ≤ D ∧ D ≤ 8 ∧ 0 ≤ Y ∧ Y ≤ 7
  · obtain ⟨b1, b2, b3, b4, b5, b6⟩ := hb
    have hw : IntKind.wrap .i64 (Y - D) = Y - D := wrap_id (by omega) (by omega)
    rw [hw]
    simp only [tmod2_zero]
    have n1 : ¬ E < 0 := by omega
    have n2 : ¬ E > 60 := by omega
    have n3 : ¬ D < 1 := by omega
    have n4 : ¬ D > 8 := by omega
    have n5 : ¬ Y < 0 := by omega
    have n6 : ¬ Y > 7 := by omega
    rw [if_neg n1, if_neg n2, if_neg n3, if_neg n4, if_neg n5, if_neg n6]
    cases O with
    | true =>
      have hP := legalS_odd E D S Y
      unfold legO at hP
      rw [if_pos rfl]
      by_cases h : (Y - D) % 2 = 0
      · rw [if_pos h]
        by_cases s1 : S = 1
        · rw [if_pos s1]
          by_cases d1 : D = 1
          · rw [if_pos d1, if_pos s1]
            by_cases y1 : Y = 1
            · rw [if_pos y1]; exact leafT hP (by omega)
            · rw [if_neg y1]; exact leafE hP (by omega)
          · rw [if_neg d1, if_neg d1]
            by_cases d2 : D = 2
            · rw [if_pos d2, if_pos s1]; exact leafN hP (by omega)
            · rw [if_neg d2, if_neg d2]; exact leafT hP (by omega)
        · rw [if_neg s1]
          by_cases s2 : S = -1
          · rw [if_pos s2]
            by_cases d1 : D = 1
            · rw [if_pos d1, if_neg s1, if_pos d1]
              by_cases y1 : Y = 3
              · rw [if_pos y1]; exact leafT hP (by omega)
              · rw [if_neg y1]; exact leafE hP (by omega)
            · rw [if_neg d1, if_neg d1]
              by_cases d2 : D = 2
              · rw [if_pos d2, if_neg s1, if_pos d2]; exact leafN hP (by omega)
              · rw [if_neg d2, if_neg d2]; exact leafT hP (by omega)
          · rw [if_neg s2]; exact leafF hP (by omega)
      · rw [if_neg h]
        by_cases s1 : S = 1
        · rw [if_pos s1]; exact leafF hP (by omega)
        · rw [if_neg s1]
          by_cases s2 : S = -1
          · rw [if_pos s2]; exact leafF hP (by omega)
          · rw [if_neg s2]; exact leafF hP (by omega)
    | false =>
      have hP := legalS_even E D S Y
      unfold legE at hP
      have hf : ¬ (false = true) := by decide
      by_cases s1 : S = 1
      · rw [if_pos s1, if_neg hf]
        by_cases h : D % 2 = 0
        · rw [if_pos h]; exact leafE hP (by omega)
        · rw [if_neg h]; exact leafF hP (by omega)
      · rw [if_neg s1]
        by_cases s2 : S = -1
        · rw [if_pos s2, if_neg hf]
          by_cases h : D % 2 = 0
          · rw [if_pos h]; exact leafE hP (by omega)
          · rw [if_neg h]; exact leafF hP (by omega)
        · rw [if_neg s2]; exact leafF hP (by omega)
  · have hn : ¬ legalS ⟨E, D, S, O, Y⟩ := fun h => hb ⟨h.1, h.2.1, h.2.2.1, h.2.2.2.1, h.2.2.2.2.2.1, h.2.2.2.2.2.2.1⟩
    rw [decide_eq_false hn]
    by_cases c1 : E < 0
    · rw [if_pos c1]
    rw [if_neg c1]
    by_cases c2 : E > 60
    · rw [if_pos c2]
    rw [if_neg c2]
    by_cases c3 : D < 1
    · rw [if_pos c3]
    rw [if_neg c3]
    by_cases c4 : D > 8
    · rw [if_pos c4]
    rw [if_neg c4]
    by_cases c5 : Y < 0
    · by_cases s1 : S = 1
      · rw [if_pos s1, if_pos c5]
      · rw [if_neg s1, if_pos c5]; split <;> rfl
    · have c6 : Y > 7 := by omega
      by_cases s1 : S = 1
      · rw [if_pos s1, if_neg c5, if_pos c6]
      · rw [if_neg s1, if_neg c5, if_pos c6]; split <;> rfl

/-- a raw list -/
def raw2 (L : List Constituent) : Prop := ordR L ∧ ∀ c ∈ L, legalS c

open Fquadformref26_Valid2 in
theorem legal_loop (k : Nat) (L : List Constituent) (hL : L.length ≤ 1000) : ∀ (r : List Constituent) (j n : Nat), r.length < j → L.drop n = r → n ≤ L.length →
    l0 k j L (L.length : Int) (n : Int) = if (∀ c ∈ r, legalS c) then some .x0 else some (.ret false) := by
  intro r
  induction r with
  | nil =>
    intro j n hj hr hn
    obtain ⟨j, rfl⟩ : ∃ i, j = i + 1 := ⟨j - 1, by simp at hj; omega⟩
    have := elt_end hr hn
    show l0_b k (l0 k j) _ _ _ = _
    unfold l0_b; rw [if_neg (by omega), if_pos (fun c hc => absurd hc (by simp))]
  | cons c r ih =>
    intro j n hj hr hn
    obtain ⟨j, rfl⟩ : ∃ i, j = i + 1 := ⟨j - 1, by simp at hj; omega⟩
    obtain ⟨g1, g2, g3, g4⟩ := elt_drop hr
    simp only [List.length_cons] at hj
    show l0_b k (l0 k j) _ _ _ = _
    unfold l0_b
    rw [if_pos (by omega), g2, Option.bind_some, legalR_val, Option.bind_some]
    by_cases hc : legalS c
    · rw [if_pos (by simpa using hc), wrap_succ (by omega), ih j (n + 1) (by omega) g3 (by omega)]
      have hiff : (∀ x ∈ c :: r, legalS x) ↔ (∀ x ∈ r, legalS x) := by
        constructor
        · intro h x hx; exact h x (by simp [hx])
        · intro h x hx
          rcases List.mem_cons.1 hx with rfl | hx
          · exact hc
          · exact h x hx
      simp only [hiff]
    · rw [if_neg (by simpa using hc), if_neg (fun h => hc (h c (by simp)))]

theorem valid2_val (k : Nat) (p : Int) (L : List Constituent) (hL : L.length ≤ 1000) (hk : L.length < k) : Fquadformref26_Valid2 k p L = some (decide (p = 2 ∧ raw2 L)) := by
  unfold Fquadformref26_Valid2 Fquadformref26_Valid2.b
  by_cases hp : p = 2
  case neg => rw [if_neg hp, decide_eq_false (p := p = 2 ∧ raw2 L) (fun h => hp h.1)]
  rw [if_pos hp, order_val k L hL hk, Option.bind_some]
  by_cases ho : ordR L
  case neg => rw [if_neg (by simpa using ho), decide_eq_false (p := p = 2 ∧ raw2 L) (fun h => ho h.2.1)]
  have key := legal_loop k L hL L k 0 hk rfl (by omega)
  have e0 : ((0 : Nat) : Int) = 0 := rfl
  rw [e0] at key
  rw [if_pos (by simpa using ho), key]
  by_cases hl : ∀ c ∈ L, legalS c
  · rw [if_pos hl, decide_eq_true (p := p = 2 ∧ raw2 L) ⟨hp, ho, hl⟩]; rfl
  · rw [if_neg hl, decide_eq_false (p := p = 2 ∧ raw2 L) (fun h => hl h.2.2)]; rfl

end Go.Cn
