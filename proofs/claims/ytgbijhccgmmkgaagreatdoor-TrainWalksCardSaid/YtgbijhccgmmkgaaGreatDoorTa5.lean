/- Fused symbols, walks, canonical symbols: what the document computes. -/
import Derived.Test.YtgbijhccgmmkgaaGreatDoorTy11
import Derived.Test.YtgbijhccgmmkgaaGreatDoorTf11m8
import Derived.Test.YtgbijhccgmmkgaaGreatDoorProg
import Derived.Test.YtgbijhccgmmkgaaGreatDoorTf11m3
import Derived.Test.YtgbijhccgmmkgaaGreatDoorTa4
set_option linter.unusedVariables false
noncomputable section
open Classical
namespace Go.Cn

/-! ### changes in one place -/
def setO (L : List Constituent) (i o : Int) : List Constituent := L.set i.toNat ⟨(ati L i).Exp, (ati L i).Dim, (ati L i).Sign, (ati L i).Odd, o⟩
def setSg (L : List Constituent) (i s : Int) : List Constituent := L.set i.toNat ⟨(ati L i).Exp, (ati L i).Dim, s, (ati L i).Odd, (ati L i).Oddity⟩
theorem setO_len (L : List Constituent) (i o : Int) : (setO L i o).length = L.length := by unfold setO; simp
theorem setSg_len (L : List Constituent) (i o : Int) : (setSg L i o).length = L.length := by unfold setSg; simp
theorem ati_set_ne {L : List Constituent} {i j : Int} {c : Constituent} (h : i.toNat ≠ j.toNat) : ati (L.set i.toNat c) j = ati L j := by
  unfold ati
  rw [List.getD_eq_getElem?_getD, List.getElem?_set_ne h, ← List.getD_eq_getElem?_getD]
theorem ati_set_eq {L : List Constituent} {i : Int} {c : Constituent} (h : i.toNat < L.length) : ati (L.set i.toNat c) i = c := by
  unfold ati
  rw [List.getD_eq_getElem?_getD, List.getElem?_set_self h]
  rfl

def zeroS (L : List Constituent) : List Int → List Constituent
  | [] => L
  | i :: r => zeroS (setO L i 0) r
theorem zeroS_len : ∀ (p : List Int) (L : List Constituent), (zeroS L p).length = L.length
  | [], L => rfl
  | i :: r, L => by show (zeroS (setO L i 0) r).length = _; rw [zeroS_len r, setO_len]
def fuseF (L0 out : List Constituent) : List (List Int) → List Constituent
  | [] => out
  | p :: r => fuseF L0 (setO (zeroS out p) (p.getD 0 0) (totS L0 p)) r
theorem fuseF_len (L0 : List Constituent) : ∀ (P : List (List Int)) (out : List Constituent), (fuseF L0 out P).length = out.length
  | [], out => rfl
  | p :: r, out => by show (fuseF L0 _ r).length = _; rw [fuseF_len L0 r, setO_len, zeroS_len]
def fuS (L : List Constituent) : List Constituent := fuseF L L (partsS L)
theorem fuS_len (L : List Constituent) : (fuS L).length = L.length := fuseF_len _ _ _

open F13 in
theorem fuse_in (k : Nat) (x : Int) (A : List Constituent) (y z : Int) (a : List Int) (P : List (List Int)) (u v : Int) (p : List Int) (N : Nat) (hp : p.length ≤ 1000) (hin : inR N p) : ∀ (r : List Int) (j n : Nat) (out : List Constituent), r.length < j → p.drop n = r → n ≤ p.length → out.length = N →
    l1b k j x A y z out a P u v p (p.length : Int) (n : Int) = some (.x1 x A y z (zeroS out r) a P u v) := by
  intro r
  induction r with
  | nil =>
    intro j n out hj hr hn ho
    obtain ⟨j, rfl⟩ : ∃ i, j = i + 1 := ⟨j - 1, by simp at hj; omega⟩
    have := elt_end hr hn
    show l1b_b k (l1 k j) (l1b k j) _ _ _ _ _ _ _ _ _ _ _ _ = _
    unfold l1b_b; rw [if_neg (by omega)]; rfl
  | cons b r ih =>
    intro j n out hj hr hn ho
    obtain ⟨j, rfl⟩ : ∃ i, j = i + 1 := ⟨j - 1, by simp at hj; omega⟩
    obtain ⟨g1, g2, g3, g4⟩ := elt_drop hr
    simp only [List.length_cons] at hj
    have hb := hin b (List.mem_of_getElem? g4)
    show l1b_b k (l1 k j) (l1b k j) _ _ _ _ _ _ _ _ _ _ _ _ = _
    unfold l1b_b
    rw [if_pos (by omega), g2, Option.bind_some, elt_ati hb.1 (by omega), Option.bind_some, wrap_succ (by omega)]
    exact ih j (n + 1) (setO out b 0) (by omega) g3 (by omega) (by rw [setO_len]; exact ho)

open F13 in
theorem fuse_loop (k : Nat) (x : Int) (A : List Constituent) (y z : Int) (P : List (List Int)) (hk : 1001 < k) (hP : P.length ≤ 1000) (hin : ∀ p ∈ P, p ≠ [] ∧ inR A.length p ∧ p.length ≤ 1000) : ∀ (r : List (List Int)) (j n : Nat) (out : List Constituent), r.length < j → P.drop n = r → n ≤ P.length → out.length = A.length →
    l0b k j x A y z out P (P.length : Int) (n : Int) = some (.x1 y z (fuseF A out r)) := by
  intro r
  induction r with
  | nil =>
    intro j n out hj hr hn ho
    obtain ⟨j, rfl⟩ : ∃ i, j = i + 1 := ⟨j - 1, by simp at hj; omega⟩
    have := elt_end hr hn
    show l0b_b k (l0 k j) (l0b k j) _ _ _ _ _ _ _ _ = _
    unfold l0b_b; rw [if_neg (by omega)]; rfl
  | cons b r ih =>
    intro j n out hj hr hn ho
    obtain ⟨j, rfl⟩ : ∃ i, j = i + 1 := ⟨j - 1, by simp at hj; omega⟩
    obtain ⟨g1, g2, g3, g4⟩ := elt_drop hr
    simp only [List.length_cons] at hj
    obtain ⟨hb0, hb1, hb2⟩ := hin b (List.mem_of_getElem? g4)
    show l0b_b k (l0 k j) (l0b k j) _ _ _ _ _ _ _ _ = _
    unfold l0b_b
    have key := fuse_in k x A y z b P (P.length : Int) (n : Int) b A.length hb2 hb1 b k 0 out (by omega) rfl (by omega) ho
    have e0 : ((0 : Nat) : Int) = 0 := rfl
    rw [e0] at key
    rw [if_pos (by omega), g2, Option.bind_some, key]
    show F13.c5 k (l0 k j) (l0b k j) x A y z (zeroS out b) b P (P.length : Int) (n : Int) = _
    unfold F13.c5
    cases b with
    | nil => exact absurd rfl hb0
    | cons i b =>
      have hi := hb1 i (by simp)
      rw [show elt (i :: b) 0 = some i from rfl, Option.bind_some, total_val k A (i :: b) hb2 hb1 (by omega), Option.bind_some, elt_ati hi.1 (by rw [zeroS_len, ho]; exact hi.2), Option.bind_some, wrap_succ (by omega)]
      exact ih j (n + 1) (setO (zeroS out (i :: b)) i (totS A (i :: b))) (by omega) g3 (by omega) (by rw [setO_len, zeroS_len]; exact ho)

theorem copied_val (k : Nat) (p : Int) (L : List Constituent) (h1 : 1 ≤ L.length) (h2 : L.length ≤ 1000) : F25 k p L = some (.s1 p L) := by
  unfold F25 F25.b
  rw [if_neg (by omega), if_pos (by omega)]
  rfl

theorem fuse_val (k : Nat) (hk : 1100 ≤ k) (p : Int) (L : List Constituent) (hL : L.length ≤ 900) : F13 k p L = some (if p = 2 ∧ raw2 L then (p, fuS L, true) else (0, [], false)) := by
  unfold F13 F13.b
  rw [valid2_val k p L (by omega) (by omega), Option.bind_some]
  by_cases h : p = 2 ∧ raw2 L
  case neg => rw [if_neg (by simpa using h), if_neg h]
  have h8 := ordR_len h.2.1
  rw [if_pos (by simpa using h), if_pos h, copied_val k p L h8.1 (by omega), Option.bind_some]
  show F13.c1 k p L 0 p L = _
  unfold F13.c1
  obtain ⟨q1, q2⟩ := parts_ok L
  rw [parts_val k L (by omega) (by omega), Option.bind_some]
  have key := fuse_loop k p L 0 p (partsS L) (by omega) (by omega) (fun a ha => ⟨(q2 a ha).1, (q2 a ha).2.1, by have := (q2 a ha).2.2; omega⟩) (partsS L) k 0 L (by omega) rfl (by omega) rfl
  have e0 : ((0 : Nat) : Int) = 0 := rfl
  rw [e0] at key
  rw [key]
  rfl

/-! ### walks -/
def add4 (L : List Constituent) (i : Int) : List Constituent := setO L i (Int.tmod (IntKind.wrap .i64 ((ati L i).Oddity + 4)) 8)
theorem add4_len (L : List Constituent) (i : Int) : (add4 L i).length = L.length := setO_len _ _ _
def stS (L : List Constituent) (i : Int) : List Constituent :=
  let L2 := setSg (setSg L i (IntKind.wrap .i64 (0 - (ati L i).Sign))) (i - 1) (IntKind.wrap .i64 (0 - (ati L (i - 1)).Sign))
  let p := ptS (partsS L) (i - 1)
  let q := ptS (partsS L) i
  let L3 := if p ≠ [] then add4 L2 (p.getD 0 0) else L2
  if q ≠ [] then (if p = [] then add4 L3 (q.getD 0 0) else if p.getD 0 0 = q.getD 0 0 then L3 else add4 L3 (q.getD 0 0)) else L3
theorem stS_len (L : List Constituent) (i : Int) : (stS L i).length = L.length := by
  unfold stS
  dsimp only
  repeat' split
  all_goals simp [add4_len, setSg_len]

theorem len_pos {l : List Int} (h : l ≠ []) : ∃ a r, l = a :: r := by
  cases l with
  | nil => exact absurd rfl h
  | cons a r => exact ⟨a, r, rfl⟩

/-- walks from index i down -/
def cnF : Nat → List Constituent → List Constituent
  | 0, L => L
  | i + 1, L => if (ati L ((i + 1 : Nat) : Int)).Sign = -1 ∧ lkS L ((i + 1 : Nat) : Int) = true then cnF i (stS L ((i + 1 : Nat) : Int)) else cnF i L
def canS (L : List Constituent) : List Constituent := cnF (L.length - 1) (fuS L)
/-! ### any symbol that is made, and a bent one -/
end Go.Cn
