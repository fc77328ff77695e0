/- Fused symbols, walks, canonical symbols: what the document computes. -/
import Derived.Test.YtgbijhccgmmkgabGreatDoorTf13m6
import Derived.Test.YtgbijhccgmmkgabGreatDoorTa4
set_option linter.unusedVariables false
noncomputable section
open Classical
namespace Go.Cn

/-! ### changes in one place -/
def setO (L : List ua0) (i o : Int) : List ua0 := L.set i.toNat ⟨(ati L i).Exp, (ati L i).Dim, (ati L i).Sign, (ati L i).Odd, o⟩
def setSg (L : List ua0) (i s : Int) : List ua0 := L.set i.toNat ⟨(ati L i).Exp, (ati L i).Dim, s, (ati L i).Odd, (ati L i).Oddity⟩
theorem ud3 (L : List ua0) (i o : Int) : (setO L i o).length = L.length := by unfold setO; simp
theorem ati_set_ne {L : List ua0} {i j : Int} {c : ua0} (h : i.toNat ≠ j.toNat) : ati (L.set i.toNat c) j = ati L j := by
  unfold ati
  rw [List.getD_eq_getElem?_getD, List.getElem?_set_ne h, ← List.getD_eq_getElem?_getD]
theorem ati_set_eq {L : List ua0} {i : Int} {c : ua0} (h : i.toNat < L.length) : ati (L.set i.toNat c) i = c := by
  unfold ati
  rw [List.getD_eq_getElem?_getD, List.getElem?_set_self h]
  rfl

def zeroS (L : List ua0) : List Int → List ua0
  | [] => L
  | i :: r => zeroS (setO L i 0) r
theorem uk2 : ∀ (p : List Int) (L : List ua0), (zeroS L p).length = L.length
  | [], L => rfl
  | i :: r, L => by show (zeroS (setO L i 0) r).length = _; rw [uk2 r, ud3]
def fuseF (L0 out : List ua0) : List (List Int) → List ua0
  | [] => out
  | p :: r => fuseF L0 (setO (zeroS out p) (p.getD 0 0) (totS L0 p)) r
theorem fuseF_len (L0 : List ua0) : ∀ (P : List (List Int)) (out : List ua0), (fuseF L0 out P).length = out.length
  | [], out => rfl
  | p :: r, out => by show (fuseF L0 _ r).length = _; rw [fuseF_len L0 r, ud3, uk2]
def fuS (L : List ua0) : List ua0 := fuseF L L (partsS L)
theorem un3 (L : List ua0) : (fuS L).length = L.length := fuseF_len _ _ _

/-! ### walks -/
def add4 (L : List ua0) (i : Int) : List ua0 := setO L i (Int.tmod (IntKind.wrap .i64 ((ati L i).Oddity + 4)) 8)
def stS (L : List ua0) (i : Int) : List ua0 :=
  let L2 := setSg (setSg L i (IntKind.wrap .i64 (0 - (ati L i).Sign))) (i - 1) (IntKind.wrap .i64 (0 - (ati L (i - 1)).Sign))
  let p := ptS (partsS L) (i - 1)
  let q := ptS (partsS L) i
  let L3 := if p ≠ [] then add4 L2 (p.getD 0 0) else L2
  if q ≠ [] then (if p = [] then add4 L3 (q.getD 0 0) else if p.getD 0 0 = q.getD 0 0 then L3 else add4 L3 (q.getD 0 0)) else L3
theorem len_pos {l : List Int} (h : l ≠ []) : ∃ a r, l = a :: r := by
  cases l with
  | nil => exact absurd rfl h
  | cons a r => exact ⟨a, r, rfl⟩

/-- walks from index i down -/
def cnF : Nat → List ua0 → List ua0
  | 0, L => L
  | i + 1, L => if (ati L ((i + 1 : Nat) : Int)).Sign = -1 ∧ lkS L ((i + 1 : Nat) : Int) = true then cnF i (stS L ((i + 1 : Nat) : Int)) else cnF i L
def canS (L : List ua0) : List ua0 := cnF (L.length - 1) (fuS L)
/-! ### any symbol that is made, and a bent one -/
end Go.Cn
