/- The law of the oddity of a symbol. -/
import Derived.Test.YtgbijhccgmmkgaaGreatDoorTf11m18
import Derived.Test.YtgbijhccgmmkgaaGreatDoorTy11
import Derived.Test.YtgbijhccgmmkgaaGreatDoorTf11m0
import Derived.Test.YtgbijhccgmmkgaaGreatDoorTf11m8
import Derived.Test.YtgbijhccgmmkgaaGreatDoorProg
import Derived.Test.YtgbijhccgmmkgaaGreatDoorTf11m3
import Derived.Test.YtgbijhccgmmkgaaGreatDoorTf11m5
import Derived.Test.YtgbijhccgmmkgaaGreatDoorTd2
import Derived.Test.YtgbijhccgmmkgaaGreatDoorTa5
set_option linter.unusedVariables false
noncomputable section
open Classical
namespace Go.Cn

def odF (s : Int) : List Constituent → Int
  | [] => s
  | c :: r => odF (if Int.tmod c.Exp 2 = 1 then (if c.Sign = -1 then IntKind.wrap .i64 (IntKind.wrap .i64 (s + c.Oddity) + 4) else IntKind.wrap .i64 (s + c.Oddity)) else IntKind.wrap .i64 (s + c.Oddity)) r

open F41 in
theorem odP_loop (k : Nat) (L : List Constituent) (hL : L.length ≤ 1000) : ∀ (r : List Constituent) (j n : Nat) (s : Int), r.length < j → L.drop n = r → n ≤ L.length → l0 k j s L (L.length : Int) (n : Int) = some (odF s r) := by
  intro r
  induction r with
  | nil =>
    intro j n s hj hr hn
    obtain ⟨j, rfl⟩ : ∃ i, j = i + 1 := ⟨j - 1, by simp at hj; omega⟩
    have := elt_end hr hn
    show l0_b k (l0 k j) _ _ _ _ = _
    unfold l0_b; rw [if_neg (by omega)]; rfl
  | cons c r ih =>
    intro j n s hj hr hn
    obtain ⟨j, rfl⟩ : ∃ i, j = i + 1 := ⟨j - 1, by simp at hj; omega⟩
    obtain ⟨g1, g2, g3, g4⟩ := elt_drop hr
    simp only [List.length_cons] at hj
    show l0_b k (l0 k j) _ _ _ _ = some (odF (if _ then (if _ then _ else _) else _) r)
    unfold l0_b
    rw [if_pos (by omega), g2, Option.bind_some, wrap_succ (by omega)]
    by_cases h1 : Int.tmod c.Exp 2 = 1
    · rw [if_pos h1, if_pos h1]
      by_cases h2 : c.Sign = -1
      · rw [if_pos h2, if_pos h2]; exact ih j (n + 1) _ (by omega) g3 (by omega)
      · rw [if_neg h2, if_neg h2]; exact ih j (n + 1) _ (by omega) g3 (by omega)
    · rw [if_neg h1, if_neg h1]; exact ih j (n + 1) _ (by omega) g3 (by omega)

def oddS (p : Int) (L : List Constituent) : Int × Bool := if p = 2 ∧ (raw2 L ∨ fusedS L) then (Int.tmod (odF 0 L) 8, true) else (0, false)
theorem odP_val (k : Nat) (hk : 1100 ≤ k) (p : Int) (L : List Constituent) (hL : L.length ≤ 900) : F41 k p L = some (oddS p L) := by
  unfold F41 F41.b oddS
  have key := odP_loop k L (by omega) L k 0 0 (by omega) rfl (by omega)
  have e0 : ((0 : Nat) : Int) = 0 := rfl
  rw [e0] at key
  rw [validT_val k (by omega) p L (by omega) (by omega), Option.bind_some]
  by_cases h : p = 2 ∧ raw2 L
  · rw [if_pos (by simpa using h), key, if_pos ⟨h.1, .inl h.2⟩]; rfl
  rw [if_neg (by simpa using h), fusedP_val k hk p L hL, Option.bind_some]
  by_cases h' : p = 2 ∧ fusedS L
  · rw [if_pos (by simpa using h'), key, if_pos ⟨h'.1, .inr h'.2⟩]; rfl
  · rw [if_neg (by simpa using h'), if_neg (fun g => by
      rcases g.2 with g2 | g2
      · exact h ⟨g.1, g2⟩
      · exact h' ⟨g.1, g2⟩)]


end Go.Cn
