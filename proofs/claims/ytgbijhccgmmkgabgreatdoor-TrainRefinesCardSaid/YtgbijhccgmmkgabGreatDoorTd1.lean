/- Fused symbols: what the document asks. -/
import Derived.Test.YtgbijhccgmmkgabGreatDoorTc1
import Derived.Test.YtgbijhccgmmkgabGreatDoorTa3
set_option linter.unusedVariables false
noncomputable section
open Classical
namespace Go.Cn

def dimF (L : List ua0) (s : Int) : List Int → Int
  | [] => s
  | i :: r => dimF L (IntKind.wrap .i64 (s + (ati L i).Dim)) r
def f1 (c : ua0) : Prop := 0 ≤ c.Oddity ∧ c.Oddity ≤ 7 ∧ (c.Odd = false → c.Dim % 2 = 0 ∧ c.Oddity = 0)
def fpar (L : List ua0) (p : List Int) : Prop := (dimF L 0 p - (ati L (p.getD 0 0)).Oddity) % 2 = 0
def ftail (L : List ua0) (p : List Int) : Prop := ∀ i ∈ p.tail, (ati L i).Oddity = 0
def fusedS (L : List ua0) : Prop := ordR L ∧ (∀ c ∈ L, f1 c) ∧ (∀ p ∈ partsS L, ftail L p) ∧ ∀ p ∈ partsS L, fpar L p

theorem uh2 {L : List ua0} {i : Int} (h0 : 0 ≤ i) (h : i < (L.length : Int)) : ati L i ∈ L := by
  have : i = ((i.toNat : Nat) : Int) := by omega
  rw [this, ati_nat (by omega)]
  exact List.getElem_mem _

theorem dimF_bd (L : List ua0) (hL : ordR L) : ∀ (p : List Int) (s : Int), inR L.length p → 0 ≤ s → s + 8 * p.length ≤ 100000 → 0 ≤ dimF L s p ∧ dimF L s p ≤ 100000
  | [], s, _, h0, h1 => ⟨h0, by simp at h1; exact h1⟩
  | i :: r, s, hin, h0, h1 => by
    have hi := hin i (by simp)
    have hm := ascR_mem (by omega) hL.1 _ (uh2 hi.1 hi.2)
    simp only [List.length_cons] at h1
    show 0 ≤ dimF L (IntKind.wrap .i64 (s + (ati L i).Dim)) r ∧ _
    rw [show dimF L s (i :: r) = dimF L (IntKind.wrap .i64 (s + (ati L i).Dim)) r from rfl, uc5 (by omega) (by omega)]
    exact dimF_bd L hL r _ (fun x hx => hin x (by simp [hx])) (by omega) (by omega)

/-- each odd constituent has its part -/
theorem part_of {L : List ua0} {n : Nat} (hn : n < L.length) (ho : memS L n = true) : ∃ p ∈ partsS L, (n : Int) ∈ p ∧ ptS (partsS L) (n : Int) = p := by
  obtain ⟨p, hp, hi⟩ := runs_cover (mem := memS L) (joi := joiS L) (n := L.length) n hn ho
  refine ⟨p, hp, hi, ?_⟩
  unfold ptS
  rw [chn_find (P := partsS L) (runs_chn (memS L) (joiS L) L.length) p hp _ hi]
  rfl
theorem un4 {L : List ua0} {p : List Int} (hp : p ∈ partsS L) {i : Int} (hi : i ∈ p) : ptS (partsS L) i = p ∧ memS L i.toNat = true := by
  unfold ptS
  rw [chn_find (P := partsS L) (runs_chn (memS L) (joiS L) L.length) p hp _ hi]
  exact ⟨rfl, runs_mems p hp i hi⟩

/-- what the document asks of a place -/
def fplace (L : List ua0) (n : Nat) : Prop := f1 (ati L (n : Int)) ∧ (memS L n = true → (ptS (partsS L) (n : Int)).getD 0 0 = (n : Int) ∨ (ati L (n : Int)).Oddity = 0)
theorem par_sym' {x y : Int} (hx : 0 ≤ x ∧ x ≤ 100000) (hy : 0 ≤ y ∧ y ≤ 7) : Int.tmod (IntKind.wrap .i64 (x - y)) 2 = 0 ↔ (x - y) % 2 = 0 := by
  rw [uc5 (by omega) (by omega), uo8]

end Go.Cn
