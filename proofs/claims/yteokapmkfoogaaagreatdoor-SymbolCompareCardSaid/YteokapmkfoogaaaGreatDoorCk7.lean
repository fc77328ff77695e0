/- The canonical calculus: an append of a whole read-only slice to nil. -/
import Derived.Test.YteokapmkfoogaaaGreatDoorCk6
set_option linter.unusedVariables false
noncomputable section
namespace Go.Cn
variable {P : Program} {α : Type} {enc : α → List CV} {sz : Nat}

theorem casK {c : Prop} [Decidable c] {β : Type} {a b : Option β} {r : β} {p : Prop} (hc : c) (h : (if c then a else b) = some r) (k : a = some r → p) : p := k (by rw [if_pos hc] at h; exact h)
theorem casN {c : Prop} [Decidable c] {β : Type} {a b : Option β} {r : β} {p : Prop} (hc : ¬ c) (h : (if c then a else b) = some r) (k : b = some r → p) : p := k (by rw [if_neg hc] at h; exact h)

theorem append_zero {ts : Array TypeId} {t e : TypeId} {by' n lo : Nat} {z : List CV} {H : CHeap} {l : List α} {cap : Option Nat} {ssz : Nat} (h0 : ts[0]? = some t) (hT : P.underlying t = some (.slice e)) (hs : tsize P e = some sz) (hb : tbytes P e = some by') (hz : czero P e = some z) (hzl : z.length = sz) (hn : noZeros P ts[1]? = true)
    (hl : l.length = 0) : cappend P ts (.ro ssz [] (some 0)) (.ro sz (l.map enc) cap) H n lo = some (.ro ssz [] (some 0), H, n) := by
  have : l = [] := List.length_eq_zero_iff.1 hl
  subst this
  unfold cappend
  simp only [h0, hT, hs, hb, hz, celems, hn, hzl, List.map_nil, List.length_nil]
  simp

theorem append_all {ts : Array TypeId} {t e : TypeId} {by' n lo : Nat} {z : List CV} {H : CHeap} {l : List α} {cap : Option Nat} {ssz : Nat} (h0 : ts[0]? = some t) (hT : P.underlying t = some (.slice e)) (hs : tsize P e = some sz) (hb : tbytes P e = some by') (hz : czero P e = some z) (hzl : z.length = sz) (hn : noZeros P ts[1]? = true)
    (h1 : 1 ≤ by') (h2 : by' ≤ 65536) (hl : ¬ l.length = 0) (hg : l.length < 1073741824) :
    cappend P ts (.ro ssz [] (some 0)) (.ro sz (l.map enc) cap) H n lo = some (.slice sz n 0 l.length none, (n, l.flatMap enc) :: H, n + 1) := by
  have hz' : Nat.beq l.length 0 = false := by rw [← Bool.not_eq_true]; intro hh; exact hl (Nat.eq_of_beq_eq_true hh)
  have hb0 : Nat.beq by' 0 = false := by rw [← Bool.not_eq_true]; intro hh; have := Nat.eq_of_beq_eq_true hh; omega
  have hb1 : Nat.ble 4294967296 by' = false := by rw [← Bool.not_eq_true]; intro hh; have := Nat.le_of_ble_eq_true hh; omega
  have hb2 : Nat.ble (0 + l.length) 0 = false := by rw [← Bool.not_eq_true]; intro hh; have := Nat.le_of_ble_eq_true hh; omega
  have hb3 : Nat.ble ((0 + l.length) * by') growBytes = true := Nat.ble_eq_true_of_le (by
    have : (0 + l.length) * by' ≤ 1073741824 * 65536 := Nat.mul_le_mul (by omega) h2
    unfold growBytes; omega)
  unfold cappend
  simp only [h0, hT, hs, hb, hz, celems, hn, hzl, List.length_map, hz', hb0, hb1, List.length_nil, hb2, hb3]
  simp [List.flatMap]

end Go.Cn
