/- A walk of a sign, place by place; a fused symbol stays fused. -/
import Derived.Test.YtgbijhccgmmkgabGreatDoorTd2
import Derived.Test.YtgbijhccgmmkgabGreatDoorTw1
import Derived.Test.YtgbijhccgmmkgabGreatDoorTv1
set_option linter.unusedVariables false
noncomputable section
open Classical
namespace Go.Cn

def b4 (x : Int) : Int := Int.tmod (IntKind.wrap .i64 (x + 4)) 8
def bump (c : ua0) : ua0 := ⟨c.Exp, c.Dim, c.Sign, c.Odd, b4 c.Oddity⟩
def fst2 (L : List ua0) (i : Int) : List Int := firsts (ptS (partsS L) (i - 1)) (ptS (partsS L) i)
def ng (x : Int) : Int := IntKind.wrap .i64 (0 - x)
/-! ### the same shape -/
structure Shp (L M : List ua0) : Prop where
  len : M.length = L.length
  exp : ∀ j : Int, 0 ≤ j → (ati M j).Exp = (ati L j).Exp
  dim : ∀ j : Int, 0 ≤ j → (ati M j).Dim = (ati L j).Dim
  odd : ∀ j : Int, 0 ≤ j → (ati M j).Odd = (ati L j).Odd
/-! ### first places of parts -/
theorem part_shape {L : List ua0} {p : List Int} (hp : p ∈ partsS L) : ∃ a m, p = iv a (m + 1) ∧ a + m < L.length := by
  obtain ⟨a, m, e, _, h⟩ := chn_mem (runs_chn (memS L) (joiS L) L.length) p hp
  exact ⟨a, m, e, by omega⟩
theorem iv_tail (a m : Nat) : (iv a (m + 1)).tail = iv (a + 1) m := by
  unfold iv
  rw [show List.range' a (m + 1) = a :: List.range' (a + 1) m from rfl]
  rfl
/-! ### a walk keeps a fused symbol fused, and walks back -/
/-- the total of a part of a fused symbol -/
theorem totF_zero (L : List ua0) : ∀ (r : List Int) (s : Int), 0 ≤ s → s ≤ 7 → (∀ i ∈ r, (ati L i).Oddity = 0) → totF L s r = s
  | [], s, _, _, _ => rfl
  | i :: r, s, h0, h1, h => by
    show totF L _ r = _
    rw [h i (by simp), Int.add_zero, ud0 (by omega) (by omega)]
    exact totF_zero L r s h0 h1 (fun x hx => h x (by simp [hx]))
theorem tot_fused {L : List ua0} (h : fusedS L) {p : List Int} (hp : p ∈ partsS L) : totS L p = (ati L (p.getD 0 0)).Oddity := by
  obtain ⟨g1, g2, g3, g4⟩ := h
  obtain ⟨a, m, ep, hb⟩ := part_shape hp
  have ht := g3 p hp
  have hh : p.getD 0 0 = (a : Int) := by rw [ep, iv_head]
  have hc : p = (a : Int) :: p.tail := by rw [ep]; rfl
  obtain ⟨k1, k2, _⟩ := g2 _ (ati_mem (L := L) (i := (a : Int)) (by omega) (by omega))
  rw [hh]
  unfold totS
  rw [hc]
  show Int.tmod (totF L (IntKind.wrap .i64 (0 + (ati L (a : Int)).Oddity)) p.tail) 8 = _
  rw [Int.zero_add, ud0 (by omega) (by omega), totF_zero L _ _ k1 k2 ht, Int.tmod_eq_emod_of_nonneg k1]
  omega
end Go.Cn
