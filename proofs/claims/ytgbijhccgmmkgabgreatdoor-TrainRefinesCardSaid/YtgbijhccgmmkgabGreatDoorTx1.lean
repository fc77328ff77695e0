/- A walk of a sign, place by place; a fused symbol stays fused. -/
import Derived.Test.YtgbijhccgmmkgabGreatDoorTd2
import Derived.Test.YtgbijhccgmmkgabGreatDoorTw1
import Derived.Test.YtgbijhccgmmkgabGreatDoorTv1
set_option linter.unusedVariables false
noncomputable section
open Classical
namespace Go.Cn

theorem ati_setO {L : List ua0} {a o j : Int} (h0 : 0 ≤ a) (h1 : a < (L.length : Int)) (hj : 0 ≤ j) : ati (setO L a o) j = if j = a then ⟨(ati L j).Exp, (ati L j).Dim, (ati L j).Sign, (ati L j).Odd, o⟩ else ati L j := by
  unfold setO
  by_cases h : j = a
  · subst h; rw [if_pos rfl, ati_set_eq (by omega)]
  · rw [if_neg h, ati_set_ne (by omega)]
def b4 (x : Int) : Int := Int.tmod (IntKind.wrap .i64 (x + 4)) 8
def bump (c : ua0) : ua0 := ⟨c.Exp, c.Dim, c.Sign, c.Odd, b4 c.Oddity⟩
def fst2 (L : List ua0) (i : Int) : List Int := firsts (ptS (partsS L) (i - 1)) (ptS (partsS L) i)
def ng (x : Int) : Int := IntKind.wrap .i64 (0 - x)
/-! ### the same shape -/
structure Shp (L M : List ua0) : Prop where
  len : M.length = L.length
  exp : ∀ j : Int, 0 ≤ j → (ati M j).Exp = (ati L j).Exp
  dim : ∀ j : Int, 0 ≤ j → (ati M j).Dim = (ati L j).Dim
  odd : ∀ j : Int, 0 ≤ j → (ati M j).Odd = (ati L j).Odd
theorem shp_parts {L M : List ua0} (h : Shp L M) : partsS M = partsS L := by
  have e1 : memS M = memS L := funext fun n => h.odd n (by omega)
  have e2 : joiS M = joiS L := funext fun n => by unfold joiS; rw [h.exp _ (by omega), h.exp _ (by omega)]
  unfold partsS
  rw [e1, e2, h.len]
theorem shp_dimF {L M : List ua0} (h : Shp L M) : ∀ (p : List Int) (s : Int), (∀ i ∈ p, 0 ≤ i) → dimF M s p = dimF L s p
  | [], s, _ => rfl
  | i :: r, s, hp => by
    show dimF M _ r = dimF L _ r
    rw [h.dim i (hp i (by simp)), shp_dimF h r _ (fun x hx => hp x (by simp [hx]))]
theorem ext_ati {L M : List ua0} (hl : M.length = L.length) (h : ∀ n : Nat, n < L.length → ati M (n : Int) = ati L (n : Int)) : M = L := by
  refine List.ext_getElem hl fun n h1 h2 => ?_
  have := h n h2
  rwa [ati_nat h1, ati_nat h2] at this
theorem asc_ext : ∀ {L M : List ua0} {e s : Int}, M.length = L.length → (∀ n : Nat, n < L.length → (ati M (n : Int)).Exp = (ati L (n : Int)).Exp ∧ (ati M (n : Int)).Dim = (ati L (n : Int)).Dim ∧ (signed (ati L (n : Int)) → signed (ati M (n : Int)))) → ascR e s L → ascR e s M ∧ dims M = dims L
  | [], [], e, s, _, _, _ => ⟨trivial, rfl⟩
  | [], c :: M, e, s, h, _, _ => by simp at h
  | c :: L, [], e, s, h, _, _ => by simp at h
  | c :: L, d :: M, e, s, hl, h, ha => by
    obtain ⟨a1, a2, a3⟩ := h 0 (by simp)
    have hc : ati (c :: L) ((0 : Nat) : Int) = c := rfl
    have hd : ati (d :: M) ((0 : Nat) : Int) = d := rfl
    rw [hc, hd] at a1 a2 a3
    have sh : ∀ (x : ua0) (R : List ua0) (n : Nat), ati (x :: R) ((n + 1 : Nat) : Int) = ati R (n : Int) := fun x R n => by
      unfold ati; rw [Int.toNat_natCast, Int.toNat_natCast, List.getD_cons_succ]
    simp only [ascR, dims] at ha ⊢
    obtain ⟨k1, k2⟩ := asc_ext (L := L) (M := M) (e := c.Exp) (s := s + c.Dim) (by simpa using hl) (fun n hn => by
      have := h (n + 1) (by simp; omega)
      rwa [sh, sh] at this) ha.2.2.2.2.2
    rw [a1, a2]
    exact ⟨⟨ha.1, ha.2.1, a3 ha.2.2.1, ha.2.2.2.1, ha.2.2.2.2.1, k1⟩, by rw [k2]⟩

/-! ### first places of parts -/
theorem uh7 {L : List ua0} {p : List Int} (hp : p ∈ partsS L) : ∃ a m, p = iv a (m + 1) ∧ a + m < L.length := by
  obtain ⟨a, m, e, _, h⟩ := chn_mem (runs_chn (memS L) (joiS L) L.length) p hp
  exact ⟨a, m, e, by omega⟩
theorem iv_tail (a m : Nat) : (iv a (m + 1)).tail = iv (a + 1) m := by
  unfold iv
  rw [show List.range' a (m + 1) = a :: List.range' (a + 1) m from rfl]
  rfl
/-- a place inside a part's tail is no part's first -/
theorem tail_first {L : List ua0} {p q : List Int} (hp : p ∈ partsS L) (hq : q ∈ partsS L) {i : Int} (hi : i ∈ p.tail) : q.getD 0 0 ≠ i := by
  intro e
  obtain ⟨a, m, ep, _⟩ := uh7 hp
  obtain ⟨b, w, eq, _⟩ := uh7 hq
  have hiq : i ∈ q := by rw [← e, eq, iv_head, mem_iv]; omega
  have h1 := (un4 hp (List.mem_of_mem_tail hi)).1
  have h2 := (un4 hq hiq).1
  rw [h1] at h2
  subst h2
  rw [ep, iv_tail, mem_iv] at hi
  rw [ep, iv_head] at e
  omega
/-! ### a walk keeps a fused symbol fused, and walks back -/
/-- the total of a part of a fused symbol -/
theorem totF_zero (L : List ua0) : ∀ (r : List Int) (s : Int), 0 ≤ s → s ≤ 7 → (∀ i ∈ r, (ati L i).Oddity = 0) → totF L s r = s
  | [], s, _, _, _ => rfl
  | i :: r, s, h0, h1, h => by
    show totF L _ r = _
    rw [h i (by simp), Int.add_zero, uc5 (by omega) (by omega)]
    exact totF_zero L r s h0 h1 (fun x hx => h x (by simp [hx]))
theorem tot_fused {L : List ua0} (h : fusedS L) {p : List Int} (hp : p ∈ partsS L) : totS L p = (ati L (p.getD 0 0)).Oddity := by
  obtain ⟨g1, g2, g3, g4⟩ := h
  obtain ⟨a, m, ep, hb⟩ := uh7 hp
  have ht := g3 p hp
  have hh : p.getD 0 0 = (a : Int) := by rw [ep, iv_head]
  have hc : p = (a : Int) :: p.tail := by rw [ep]; rfl
  obtain ⟨k1, k2, _⟩ := g2 _ (uh2 (L := L) (i := (a : Int)) (by omega) (by omega))
  rw [hh]
  unfold totS
  rw [hc]
  show Int.tmod (totF L (IntKind.wrap .i64 (0 + (ati L (a : Int)).Oddity)) p.tail) 8 = _
  rw [Int.zero_add, uc5 (by omega) (by omega), totF_zero L _ _ k1 k2 ht, Int.tmod_eq_emod_of_nonneg k1]
  omega
end Go.Cn
