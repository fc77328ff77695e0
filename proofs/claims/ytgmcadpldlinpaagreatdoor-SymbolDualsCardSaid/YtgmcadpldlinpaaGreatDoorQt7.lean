/- The plain law of SymbolScale. -/
import Derived.Test.YtgmcadpldlinpaaGreatDoorQt6
set_option linter.unusedVariables false
noncomputable section
open Classical
namespace Go.Cn

open Fquadformref24_SameList in
theorem same_loopS (k : Nat) (L : List Constituent) (hL : L.length < 1000) : ∀ (r : List Constituent) (j n : Nat), r.length < j → L.drop n = r → n ≤ L.length → Fquadformref24_SameList.l0 k j L L (L.length : Int) (n : Int) = some .x0 := by
  intro r
  induction r with
  | nil =>
    intro j n hj hr hn
    obtain ⟨j, rfl⟩ : ∃ i, j = i + 1 := ⟨j - 1, by simp at hj; omega⟩
    have hn' := drop_nilS hr hn
    show l0_b k (l0 k j) _ _ _ _ = _
    unfold l0_b
    rw [if_neg (by omega)]
  | cons b r ih =>
    intro j n hj hr hn
    obtain ⟨j, rfl⟩ : ∃ i, j = i + 1 := ⟨j - 1, by simp at hj; omega⟩
    obtain ⟨g1, g2, g3, g4⟩ := drop_eltS hr
    show l0_b k (l0 k j) _ _ _ _ = _
    unfold l0_b
    have hw2 : IntKind.wrap .i64 ((n : Int) + 1) = ((n + 1 : Nat) : Int) := by rw [wrap_id (by omega) (by omega)]; omega
    rw [if_pos (by omega), g2, Option.bind_some, Option.bind_some, if_pos rfl, hw2]
    exact ih j (n + 1) (by simp at hj; omega) g3 (by omega)

theorem same_selfS (k : Nat) (L : List Constituent) (hL : L.length < 1000) (hk : L.length < k) : Fquadformref24_SameList k L L = some true := by
  unfold Fquadformref24_SameList Fquadformref24_SameList.b
  rw [if_pos rfl]
  have := same_loopS k L hL L k 0 hk rfl (by omega)
  have e0 : ((0 : Nat) : Int) = 0 := rfl
  rw [e0] at this
  rw [this]
  rfl


theorem same_sym (k : Nat) (p : Int) (L : List Constituent) (hL : L.length < 1000) (hk : L.length < k) : Fquadformref26_Same k p L p L = some true := by
  unfold Fquadformref26_Same Fquadformref26_Same.b
  rw [if_pos rfl, same_selfS k L hL hk]
  rfl

theorem scale_c0 (p : Int) (L : List Constituent) (pr : Int) (D : List A5u8) (e : Int) (made : Bool) (hL : L.length ≤ 20) (hp : okI .u8 pr) (hD : D.length ≤ 20) (hok : ∀ a ∈ D, ok_A5u8 a) (he : -9223372036854775808 ≤ e ∧ e ≤ 9223372036854775807) :
    Fquadformlaw26_SymbolScale.c0 300 p L pr D e made = some true := by
  unfold Fquadformlaw26_SymbolScale.c0
  obtain ⟨q, o, ho, hl⟩ := either_some 300 p L pr D made hL hp hD hok (by decide)
  rw [ho, Option.bind_some]
  dsimp only
  rw [scaleP 300 (by decide) q e he o, scaleR 300 (by decide) q e o (by omega), dualP 300 (by decide) q e he o, dualR 300 (by decide) q e o (by omega)]
  simp only [Option.bind_some]
  rw [if_pos trivial, if_pos trivial]
  have b1 : ((if symP q o then (if fitS e o then (q, o.map (shift e), (0 : Int)) else (0, [], 1)) else (0, [], 22)).2.1).length ≤ 21 := by
    split
    · split
      · simp; omega
      · simp
    · simp
  have b2 : ((if symP q o then (if fitD e o then (q, o.reverse.map (flip e), (0 : Int)) else (0, [], 1)) else (0, [], 22)).2.1).length ≤ 21 := by
    split
    · split
      · simp; omega
      · simp
    · simp
  rw [same_sym 300 _ _ (by omega) (by omega), Option.bind_some, if_pos rfl, same_sym 300 _ _ (by omega) (by omega), Option.bind_some, if_pos rfl]
  rfl

/-- The plain law. -/
theorem lawScale (p0_Prime : Int) (p0_List : List Constituent) (p1_Prime : Int) (p1_Parts : List A5u8) (p2 : Int) (p3 p4 : Bool) (h1 : okI .u8 p1_Prime) (h2 : okL ok_A5u8 p1_Parts) (h3 : okI .i64 p2) :
    Fquadformlaw26_SymbolScale 300 p0_Prime p0_List p1_Prime p1_Parts p2 p3 p4 = some true := by
  unfold Fquadformlaw26_SymbolScale Fquadformlaw26_SymbolScale.b Fquadformlaw26_long Fquadformlaw26_long.b
  rw [Option.bind_some]
  by_cases l1 : (p0_List.length : Int) > 20
  · rw [if_pos (by simpa using l1)]; rfl
  rw [if_neg (by simpa using l1)]
  by_cases l2 : (p1_Parts.length : Int) > 20
  · rw [if_pos l2]; rfl
  rw [if_neg l2]
  have m1 : IntKind.min .i64 = -9223372036854775808 := rfl
  have m2 : IntKind.max .i64 = 9223372036854775807 := rfl
  have hr := h3.1; have hr' := h3.2
  cases p4
  · rw [if_neg (by simp)]
    exact scale_c0 p0_Prime p0_List p1_Prime p1_Parts p2 p3 (by omega) h1 (by omega) h2.2 (by omega)
  · rw [if_pos rfl]
    have t1 := Int.tmod_lt_of_pos p2 (show (0 : Int) < 70 by decide)
    have t2 : -70 < Int.tmod p2 70 := Int.lt_tmod_of_pos p2 (by decide)
    exact scale_c0 p0_Prime p0_List p1_Prime p1_Parts _ p3 (by omega) h1 (by omega) h2.2 (by omega)

end Go.Cn
