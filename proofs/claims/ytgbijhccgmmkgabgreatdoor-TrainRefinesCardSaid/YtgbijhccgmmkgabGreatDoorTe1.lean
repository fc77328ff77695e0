/- The fused symbol: what the program computes. -/
import Derived.Test.YtgbijhccgmmkgabGreatDoorTf13m0
import Derived.Test.YtgbijhccgmmkgabGreatDoorTf13m3
import Derived.Test.YtgbijhccgmmkgabGreatDoorTa5
import Derived.Test.YtgbijhccgmmkgabGreatDoorTb1
import Derived.Test.YtgbijhccgmmkgabGreatDoorTc3
set_option linter.unusedVariables false
noncomputable section
open Classical
namespace Go.Cn

open F25 in
theorem fuseP_in (k : Nat) (x : Int) (A : List ua0) (y z : Int) (a : List Int) (P : List (List Int)) (u v : Int) (p : List Int) (N : Nat) (hp : p.length ≤ 1000) (hin : inR N p) : ∀ (r : List Int) (j n : Nat) (out : List ua0), r.length < j → p.drop n = r → n ≤ p.length → out.length = N →
    l1b k j x A y z out a P u v p (p.length : Int) (n : Int) = some (.x1 x A y z (zeroS out r) a P u v) := by
  intro r
  induction r with
  | nil =>
    intro j n out hj hr hn ho
    obtain ⟨j, rfl⟩ : ∃ i, j = i + 1 := ⟨j - 1, by simp at hj; omega⟩
    have := uh1 hr hn
    show l1b_b k (l1 k j) (l1b k j) _ _ _ _ _ _ _ _ _ _ _ _ = _
    unfold l1b_b; rw [if_neg (by omega)]; rfl
  | cons b r ih =>
    intro j n out hj hr hn ho
    obtain ⟨j, rfl⟩ : ∃ i, j = i + 1 := ⟨j - 1, by simp at hj; omega⟩
    obtain ⟨g1, g2, g3, g4⟩ := ue8 hr
    simp only [List.length_cons] at hj
    have hb := hin b (List.mem_of_getElem? g4)
    show l1b_b k (l1 k j) (l1b k j) _ _ _ _ _ _ _ _ _ _ _ _ = _
    unfold l1b_b
    rw [if_pos (by omega), g2, Option.bind_some, ui4 hb.1 (by omega), Option.bind_some, uc8 (by omega)]
    exact ih j (n + 1) (setO out b 0) (by omega) g3 (by omega) (by rw [ud3]; exact ho)

open F25 in
theorem fuseP_loop (k : Nat) (x : Int) (A : List ua0) (y z : Int) (P : List (List Int)) (hk : 1001 < k) (hP : P.length ≤ 1000) (hin : ∀ p ∈ P, p ≠ [] ∧ inR A.length p ∧ p.length ≤ 1000) : ∀ (r : List (List Int)) (j n : Nat) (out : List ua0), r.length < j → P.drop n = r → n ≤ P.length → out.length = A.length →
    l0b k j x A y z out P (P.length : Int) (n : Int) = some (.x1 y z (fuseF A out r)) := by
  intro r
  induction r with
  | nil =>
    intro j n out hj hr hn ho
    obtain ⟨j, rfl⟩ : ∃ i, j = i + 1 := ⟨j - 1, by simp at hj; omega⟩
    have := uh1 hr hn
    show l0b_b k (l0 k j) (l0b k j) _ _ _ _ _ _ _ _ = _
    unfold l0b_b; rw [if_neg (by omega)]; rfl
  | cons b r ih =>
    intro j n out hj hr hn ho
    obtain ⟨j, rfl⟩ : ∃ i, j = i + 1 := ⟨j - 1, by simp at hj; omega⟩
    obtain ⟨g1, g2, g3, g4⟩ := ue8 hr
    simp only [List.length_cons] at hj
    obtain ⟨hb0, hb1, hb2⟩ := hin b (List.mem_of_getElem? g4)
    show l0b_b k (l0 k j) (l0b k j) _ _ _ _ _ _ _ _ = _
    unfold l0b_b
    have key := fuseP_in k x A y z b P (P.length : Int) (n : Int) b A.length hb2 hb1 b k 0 out (by omega) rfl (by omega) ho
    have e0 : ((0 : Nat) : Int) = 0 := rfl
    rw [e0] at key
    rw [if_pos (by omega), g2, Option.bind_some, key]
    show F25.c5 k (l0 k j) (l0b k j) x A y z (zeroS out b) b P (P.length : Int) (n : Int) = _
    unfold F25.c5
    cases b with
    | nil => exact absurd rfl hb0
    | cons i b =>
      have hi := hb1 i (by simp)
      rw [show elt (i :: b) 0 = some i from rfl, Option.bind_some, totalP_val k x A (i :: b) hb2 hb1 (by omega), Option.bind_some, ui4 hi.1 (by rw [uk2, ho]; exact hi.2), Option.bind_some, uc8 (by omega)]
      exact ih j (n + 1) (setO (zeroS out (i :: b)) i (totS A (i :: b))) (by omega) g3 (by omega) (by rw [ud3, uk2]; exact ho)

theorem copiedP_val (k : Nat) (p : Int) (L : List ua0) (h1 : 1 ≤ L.length) (h2 : L.length ≤ 1000) : F43 k p L = some (.s1 p L) := by
  unfold F43 F43.b
  rw [if_neg (by omega), if_pos (by omega)]
  rfl

theorem fuseP_val (k : Nat) (hk : 1100 ≤ k) (p : Int) (L : List ua0) (hL : L.length ≤ 900) : F25 k p L = some (if p = 2 ∧ raw2 L then (p, fuS L, true) else (0, [], false)) := by
  unfold F25 F25.b
  rw [validT_val k (by omega) p L (by omega) (by omega), Option.bind_some]
  by_cases h : p = 2 ∧ raw2 L
  case neg => rw [if_neg (by simpa using h), if_neg h]
  have h8 := uj2 h.2.1
  rw [if_pos (by simpa using h), if_pos h, copiedP_val k p L h8.1 (by omega), Option.bind_some]
  show F25.c1 k p L 0 p L = _
  unfold F25.c1
  obtain ⟨q1, q2⟩ := ue9 L
  rw [ug5 k p L (by omega) (by omega) (ord_exp h.2.1), Option.bind_some]
  have key := fuseP_loop k p L 0 p (partsS L) (by omega) (by omega) (fun a ha => ⟨(q2 a ha).1, (q2 a ha).2.1, by have := (q2 a ha).2.2; omega⟩) (partsS L) k 0 L (by omega) rfl (by omega) rfl
  have e0 : ((0 : Nat) : Int) = 0 := rfl
  rw [e0] at key
  rw [key]
  rfl

end Go.Cn
