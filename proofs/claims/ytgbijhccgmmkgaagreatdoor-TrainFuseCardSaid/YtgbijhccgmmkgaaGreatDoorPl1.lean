/- Plain facts: numbers, elements. -/
import Derived.Test.YtgbijhccgmmkgaaGreatDoorCb3
set_option linter.unusedVariables false
noncomputable section
namespace Go.Cn

theorem wrap_id {x : Int} (h : -9223372036854775808 ≤ x) (h' : x < 9223372036854775808) : IntKind.wrap .i64 x = x := by
  unfold IntKind.wrap
  have e1 : IntKind.i64.bits = 64 := rfl
  have e2 : IntKind.i64.signed = true := rfl
  simp only [e1, e2, Bool.true_and]
  have e3 : ((2 : Int) ^ 64) = 18446744073709551616 := by decide
  have e4 : ((2 : Int) ^ (64 - 1)) = 9223372036854775808 := by decide
  rw [e3, e4]
  split
  · next hh => simp at hh; omega
  · next hh => simp at hh; omega

theorem wrap_u8 {x : Int} (h : 0 ≤ x) (h' : x < 256) : IntKind.wrap .u8 x = x := by
  unfold IntKind.wrap
  have e1 : IntKind.u8.bits = 8 := rfl
  have e2 : IntKind.u8.signed = false := rfl
  simp only [e1, e2, Bool.false_and]
  have e3 : ((2 : Int) ^ 8) = 256 := by decide
  rw [e3]
  simp; omega

theorem iand_mod (a : Int) (m : Nat) (hm : m < 60) : iand .i64 a ((2 ^ m - 1 : Nat) : Int) = a % (2 ^ m : Nat) := by
  unfold iand
  have e1 : IntKind.i64.bits = 64 := rfl
  have hlt : (2 : Nat) ^ m < 2 ^ 60 := Nat.pow_lt_pow_right (by decide) hm
  have hpos : 0 < (2 : Nat) ^ m := Nat.two_pow_pos m
  have hz : (((2 ^ m - 1 : Nat) : Int) % ((2 ^ 64 : Nat) : Int)).toNat = 2 ^ m - 1 := by
    rw [Int.emod_eq_of_lt (by omega) (by omega)]
    exact Int.toNat_natCast _
  have ha : (BitVec.ofInt 64 a).toNat = (a % ((2 ^ 64 : Nat) : Int)).toNat := BitVec.toNat_ofInt _
  have hb : (BitVec.ofInt 64 ((2 ^ m - 1 : Nat) : Int)).toNat = 2 ^ m - 1 := by rw [BitVec.toNat_ofInt, hz]
  rw [e1, BitVec.toNat_and, hb, Nat.and_two_pow_sub_one_eq_mod, ha]
  have h1 : 0 ≤ a % ((2 ^ 64 : Nat) : Int) := Int.emod_nonneg _ (by decide)
  have hd : ((2 ^ m : Nat) : Int) ∣ ((2 ^ 64 : Nat) : Int) := by
    rw [Int.natCast_dvd_natCast]
    exact Nat.pow_dvd_pow 2 (by omega)
  have h2 : (((a % ((2 ^ 64 : Nat) : Int)).toNat % 2 ^ m : Nat) : Int) = a % ((2 ^ m : Nat) : Int) := by
    rw [Int.natCast_emod, Int.toNat_of_nonneg h1, Int.emod_emod_of_dvd _ hd]
  rw [h2]
  have h3 := Int.emod_nonneg a (show ((2 ^ m : Nat) : Int) ≠ 0 by omega)
  have h4 := Int.emod_lt_of_pos a (show (0 : Int) < ((2 ^ m : Nat) : Int) by omega)
  exact wrap_id (by omega) (by omega)

theorem iand_7 (a : Int) : iand .i64 a 7 = a % 8 := iand_mod a 3 (by decide)
theorem iand_1 (a : Int) : iand .i64 a 1 = a % 2 := iand_mod a 1 (by decide)

theorem elt_nat {α : Type} (l : List α) (n : Nat) : elt l (n : Int) = l[n]? := by
  unfold elt
  rw [if_pos (by omega), Int.toNat_natCast]

theorem elt_last {α : Type} (l : List α) (a : α) (hl : l.length < 1000000) : elt (l ++ [a]) (IntKind.wrap .i64 (((l ++ [a]).length : Int) - 1)) = some a := by
  rw [wrap_id (by have := List.length_append (as := l) (bs := [a]); simp only [List.length_singleton] at this; omega) (by have := List.length_append (as := l) (bs := [a]); simp only [List.length_singleton] at this; omega)]
  have : (((l ++ [a]).length : Int) - 1) = ((l.length : Nat) : Int) := by simp
  rw [this, elt_nat, List.getElem?_append_right (Nat.le_refl _)]
  simp

theorem set_last {α : Type} (l : List α) (a b : α) (hl : l.length < 1000000) : List.set (l ++ [a]) (IntKind.wrap .i64 (((l ++ [a]).length : Int) - 1)).toNat b = l ++ [b] := by
  rw [wrap_id (by have := List.length_append (as := l) (bs := [a]); simp only [List.length_singleton] at this; omega) (by have := List.length_append (as := l) (bs := [a]); simp only [List.length_singleton] at this; omega)]
  have : (((l ++ [a]).length : Int) - 1).toNat = l.length := by simp
  rw [this, List.set_append_right _ _ (Nat.le_refl _)]
  simp

theorem mod8_of_tmod {a : Int} : (if (Int.tmod a 8) < 0 then IntKind.wrap .i64 (Int.tmod a 8 + 8) else Int.tmod a 8) = a % 8 := by
  have h1 := Int.tmod_lt_of_pos a (show (0:Int) < 8 by decide)
  have h2 : -8 < Int.tmod a 8 := Int.lt_tmod_of_pos a (by decide)
  have h3 := Int.tmod_add_mul_tdiv a 8
  split
  · rw [wrap_id (by omega) (by omega)]; omega
  · omega

theorem tmod2_zero (a : Int) : Int.tmod a 2 = 0 ↔ a % 2 = 0 := by
  have h3 := Int.tmod_add_mul_tdiv a 2
  have h1 := Int.tmod_lt_of_pos a (show (0:Int) < 2 by decide)
  have h2 : -2 < Int.tmod a 2 := Int.lt_tmod_of_pos a (by decide)
  omega

end Go.Cn
