/- Plain facts: numbers, elements. -/
import Derived.Test.YtgbijhccgmmkgabGreatDoorCb4
set_option linter.unusedVariables false
noncomputable section
namespace Go.Cn

theorem uc5 {x : Int} (h : -9223372036854775808 ≤ x) (h' : x < 9223372036854775808) : IntKind.wrap .i64 x = x := by
  unfold IntKind.wrap
  have e1 : IntKind.i64.bits = 64 := rfl
  have e2 : IntKind.i64.signed = true := rfl
  simp only [e1, e2, Bool.true_and]
  have e3 : ((2 : Int) ^ 64) = 18446744073709551616 := by decide
  have e4 : ((2 : Int) ^ (64 - 1)) = 9223372036854775808 := by decide
  rw [e3, e4]
  split
  · next hh => simp at hh; omega
  · next hh => simp at hh; omega

theorem elt_nat {α : Type} (l : List α) (n : Nat) : elt l (n : Int) = l[n]? := by
  unfold elt
  rw [if_pos (by omega), Int.toNat_natCast]

theorem uo8 (a : Int) : Int.tmod a 2 = 0 ↔ a % 2 = 0 := by
  have h3 := Int.tmod_add_mul_tdiv a 2
  have h1 := Int.tmod_lt_of_pos a (show (0:Int) < 2 by decide)
  have h2 : -2 < Int.tmod a 2 := Int.lt_tmod_of_pos a (by decide)
  omega

end Go.Cn
