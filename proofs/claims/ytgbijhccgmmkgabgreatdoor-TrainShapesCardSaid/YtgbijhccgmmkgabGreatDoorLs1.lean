/- The law of shapes: raw, fused and canonical symbols. -/
import Derived.Test.YtgbijhccgmmkgabGreatDoorTf13m0
import Derived.Test.YtgbijhccgmmkgabGreatDoorTf13m11
import Derived.Test.YtgbijhccgmmkgabGreatDoorTf13m6
import Derived.Test.YtgbijhccgmmkgabGreatDoorTf13m7
import Derived.Test.YtgbijhccgmmkgabGreatDoorLr1
import Derived.Test.YtgbijhccgmmkgabGreatDoorTc2a
import Derived.Test.YtgbijhccgmmkgabGreatDoorTv1
import Derived.Test.YtgbijhccgmmkgabGreatDoorSo1
set_option linter.unusedVariables false
noncomputable section
open Classical
namespace Go.Cn

/-- no sign -1 can walk on -/
def firstS (L : List ua0) : Prop := ∀ n : Nat, 1 ≤ n → n < L.length → ¬ ((ati L (n : Int)).Sign = -1 ∧ lkS L (n : Int) = true)
def noneg (L : List ua0) (q : List Int) : Prop := ∀ i ∈ q, ¬ (ati L i).Sign = -1

theorem first_iff (L : List ua0) : (∀ p ∈ trS L, noneg L (p.drop 1)) ↔ firstS L := by
  have hd : ∀ (a m : Nat), (iv a (m + 1)).drop 1 = iv (a + 1) m := fun a m => by rw [List.drop_one]; exact iv_tail a m
  constructor
  · intro h n h1 h2 hh
    obtain ⟨p, hp, hi⟩ := runs_cover (mem := fun _ => true) (joi := fun i => lkS L (i : Int)) (n := L.length) n h2 rfl
    obtain ⟨a, m, e, g1, g2⟩ := runs_good p hp
    rw [e, mem_iv] at hi
    have hne : a ≠ n := fun e' => by
      subst e'
      exact g2 ⟨⟨by omega, rfl⟩, hh.2⟩
    refine h p hp (n : Int) ?_ hh.1
    rw [e, hd, mem_iv]; omega
  · intro h p hp i hi hs
    obtain ⟨a, m, e, g1, g2⟩ := runs_good p hp
    have hin := ((runs_ok (fun _ => true) (fun i => lkS L (i : Int)) L.length).2 p hp).2.1
    have hip := hin i (List.mem_of_mem_drop hi)
    rw [e, hd, mem_iv] at hi
    have hn : i = ((i.toNat : Nat) : Int) := by omega
    have := g1 i.toNat (by omega) (by omega)
    rw [hn] at hs
    exact h i.toNat (by omega) (by omega) ⟨hs, this⟩

open F17 in
theorem first_in (k : Nat) (p : Int) (L : List ua0) (P : List (List Int)) (x y : Int) (q : List Int) (hq : q.length ≤ 1000) (hin : inR L.length q) : ∀ (r : List Int) (j n : Nat), r.length < j → q.drop n = r → n ≤ q.length →
    l1 k j p L P x y q (q.length : Int) (n : Int) = if noneg L r then some (.x0 p L P x y) else some (.ret false) := by
  intro r
  induction r with
  | nil =>
    intro j n hj hr hn
    obtain ⟨j, rfl⟩ : ∃ i, j = i + 1 := ⟨j - 1, by simp at hj; omega⟩
    have := uf4 hr hn
    show l1_b k (l1 k j) _ _ _ _ _ _ _ _ = _
    have e : noneg L [] := fun i hi => absurd hi (by simp)
    unfold l1_b; rw [if_neg (by omega), if_pos e]
  | cons b r ih =>
    intro j n hj hr hn
    obtain ⟨j, rfl⟩ : ∃ i, j = i + 1 := ⟨j - 1, by simp at hj; omega⟩
    obtain ⟨g1, g2, g3, g4⟩ := ue3 hr
    simp only [List.length_cons] at hj
    have hb := hin b (List.mem_of_getElem? g4)
    show l1_b k (l1 k j) _ _ _ _ _ _ _ _ = _
    unfold l1_b
    rw [if_pos (by omega), g2, Option.bind_some, ud5 hb.1 hb.2, Option.bind_some]
    by_cases hs : (ati L b).Sign = -1
    · rw [if_pos hs, if_neg (fun h => h b (by simp) hs)]
    · rw [if_neg hs, uc4 (by omega), ih j (n + 1) (by omega) g3 (by omega)]
      have : noneg L (b :: r) ↔ noneg L r := ⟨fun h i hi => h i (by simp [hi]), fun h i hi => by
        rcases List.mem_cons.1 hi with rfl | hi
        · exact hs
        · exact h i hi⟩
      simp only [this]

open F17 in
theorem first_out (k : Nat) (hk : 1100 ≤ k) (p : Int) (L : List ua0) (hL : L.length ≤ 900) (P : List (List Int)) (hP : P.length ≤ 1000) (hp : ∀ q ∈ P, q ≠ [] ∧ inR L.length q ∧ q.length ≤ 1000) : ∀ (r : List (List Int)) (j n : Nat), r.length < j → P.drop n = r → n ≤ P.length →
    l0 k j p L P (P.length : Int) (n : Int) = if (∀ q ∈ r, noneg L (q.drop 1)) then some .x0 else some (.ret false) := by
  intro r
  induction r with
  | nil =>
    intro j n hj hr hn
    obtain ⟨j, rfl⟩ : ∃ i, j = i + 1 := ⟨j - 1, by simp at hj; omega⟩
    have := uf4 hr hn
    show l0_b k (l0 k j) _ _ _ _ _ = _
    unfold l0_b; rw [if_neg (by omega), if_pos (fun q hq => absurd hq (by simp))]
  | cons b r ih =>
    intro j n hj hr hn
    obtain ⟨j, rfl⟩ : ∃ i, j = i + 1 := ⟨j - 1, by simp at hj; omega⟩
    obtain ⟨g1, g2, g3, g4⟩ := ue3 hr
    simp only [List.length_cons] at hj
    obtain ⟨b0, b1, b2⟩ := hp b (List.mem_of_getElem? g4)
    have hb1 : 1 ≤ b.length := by
      cases b with
      | nil => exact absurd rfl b0
      | cons x y => simp
    have hg : (0 : Int) ≤ 1 ∧ (1 : Int) ≤ ((b.length : Nat) : Int) := ⟨by omega, by omega⟩
    have hlen : (b.drop 1).length ≤ 1000 := by simp only [List.length_drop]; omega
    have key := first_in k p L P (P.length : Int) (n : Int) (b.drop 1) hlen (fun x hx => b1 x (List.mem_of_mem_drop hx)) (b.drop 1) k 0 (by omega) rfl (by omega)
    have e0 : ((0 : Nat) : Int) = 0 := rfl
    rw [e0] at key
    show l0_b k (l0 k j) _ _ _ _ _ = _
    unfold l0_b
    rw [if_pos (by omega), g2, Option.bind_some, if_pos hg, show (1 : Int).toNat = 1 from rfl, key]
    by_cases hs : noneg L (b.drop 1)
    · rw [if_pos hs]
      show F17.c1 k (l0 k j) p L P (P.length : Int) (n : Int) = _
      unfold F17.c1
      rw [uc4 (by omega), ih j (n + 1) (by omega) g3 (by omega)]
      have : (∀ q ∈ b :: r, noneg L (q.drop 1)) ↔ (∀ q ∈ r, noneg L (q.drop 1)) := ⟨fun h i hi => h i (by simp [hi]), fun h i hi => by
        rcases List.mem_cons.1 hi with rfl | hi
        · exact hs
        · exact h i hi⟩
      simp only [this]
    · rw [if_neg hs, if_neg (fun h => hs (h b (by simp)))]; rfl

theorem first_val (k : Nat) (hk : 1100 ≤ k) (p : Int) (L : List ua0) (hL : L.length ≤ 900) : F17 k p L = some (decide (firstS L)) := by
  unfold F17 F17.b
  obtain ⟨b1, b2⟩ := runs_ok (fun _ => true) (fun i => lkS L (i : Int)) L.length
  have hb1 : (trS L).length ≤ 1000 := by show (runs _ _ _).length ≤ 1000; omega
  have key := first_out k hk p L hL (trS L) hb1 (fun q hq => ⟨(b2 q hq).1, (b2 q hq).2.1, by have := (b2 q hq).2.2; omega⟩) (trS L) k 0 (by omega) rfl (by omega)
  have e0 : ((0 : Nat) : Int) = 0 := rfl
  rw [e0] at key
  rw [chains_val k L (by omega) (by omega), Option.bind_some, key]
  by_cases h : firstS L
  · rw [if_pos ((first_iff L).2 h), decide_eq_true h]; rfl
  · rw [if_neg (fun g => h ((first_iff L).1 g)), decide_eq_false h]; rfl

def isCV (p : Int) (L : List ua0) : Bool := if p = 2 ∧ fusedS L then (if firstS L then (refV p L).2.2 else false) else false
theorem isCR_val (k : Nat) (hk : 1100 ≤ k) (p : Int) (L : List ua0) (hL : L.length ≤ 900) : F23 k p L = some (isCV p L) := by
  unfold F23 F23.b isCV
  rw [fusedR_val k hk p L hL, Option.bind_some]
  by_cases h : p = 2 ∧ fusedS L
  case neg => rw [if_neg (by simpa using h), if_neg h]
  rw [if_pos (by simpa using h), if_pos h, first_val k hk p L hL, Option.bind_some]
  by_cases h1 : firstS L
  · rw [if_pos (by simpa using h1), if_pos h1, refR_val k hk p L hL, Option.bind_some]
  · rw [if_neg (by simpa using h1), if_neg h1]

open F67 in
theorem isP_loop (k : Nat) (p : Int) (L : List ua0) (hL : L.length ≤ 900) (hk : L.length + 1 < k) (hE : expOk L) : ∀ (m j n : Nat), n + m = L.length → 1 ≤ n → m < j →
    l0 k j p L (n : Int) = if (∀ i : Nat, n ≤ i → i < L.length → ¬ ((ati L (i : Int)).Sign = -1 ∧ lkS L (i : Int) = true)) then some (.x0 p L) else some (.ret false) := by
  intro m
  induction m with
  | zero =>
    intro j n hn h1 hj
    obtain ⟨j, rfl⟩ : ∃ i, j = i + 1 := ⟨j - 1, by omega⟩
    show l0_b k (l0 k j) _ _ _ = _
    unfold l0_b; rw [if_neg (by omega), if_pos (fun i x y => by omega)]
  | succ m ih =>
    intro j n hn h1 hj
    obtain ⟨j, rfl⟩ : ∃ i, j = i + 1 := ⟨j - 1, by omega⟩
    have good : ¬ ((ati L (n : Int)).Sign = -1 ∧ lkS L (n : Int) = true) → l0 k j p L ((n + 1 : Nat) : Int) = if (∀ i : Nat, n ≤ i → i < L.length → ¬ ((ati L (i : Int)).Sign = -1 ∧ lkS L (i : Int) = true)) then some (.x0 p L) else some (.ret false) := fun h => by
      rw [ih j (n + 1) (by omega) (by omega) (by omega)]
      have : (∀ i : Nat, n + 1 ≤ i → i < L.length → ¬ ((ati L (i : Int)).Sign = -1 ∧ lkS L (i : Int) = true)) ↔ (∀ i : Nat, n ≤ i → i < L.length → ¬ ((ati L (i : Int)).Sign = -1 ∧ lkS L (i : Int) = true)) := ⟨fun g i x y => by
        by_cases e : i = n
        · subst e; exact h
        · exact g i (by omega) y, fun g i x y => g i (by omega) y⟩
      simp only [this]
    show l0_b k (l0 k j) _ _ _ = _
    unfold l0_b
    rw [if_pos (by omega), ud5 (by omega) (by omega), Option.bind_some, uc4 (by omega)]
    by_cases hs : (ati L (n : Int)).Sign = -1
    · rw [if_pos hs, linkedP_val k p L n (by omega) (by omega) hE (by omega) (by omega), Option.bind_some]
      by_cases hl : lkS L (n : Int) = true
      · rw [if_pos hl, if_neg (fun h => h n (Nat.le_refl n) (by omega) ⟨hs, hl⟩)]
      · rw [if_neg hl]; exact good (fun h => hl h.2)
    · rw [if_neg hs]; exact good (fun h => hs h.1)

theorem isCP_val (k : Nat) (hk : 1100 ≤ k) (p : Int) (L : List ua0) (hL : L.length ≤ 900) : F67 k p L = some (isCV p L) := by
  unfold F67 F67.b isCV
  rw [fusedP_val k hk p L hL, Option.bind_some]
  by_cases h : p = 2 ∧ fusedS L
  case neg => rw [if_neg (by simpa using h), if_neg h]
  have h8 := ui2 h.2.1
  have key := isP_loop k p L hL (by omega) (ord_exp h.2.1) (L.length - 1) k 1 (by omega) (by omega) (by omega)
  have e1 : ((1 : Nat) : Int) = 1 := rfl
  rw [e1] at key
  rw [if_pos (by simpa using h), if_pos h, key]
  have hiff : (∀ i : Nat, 1 ≤ i → i < L.length → ¬ ((ati L (i : Int)).Sign = -1 ∧ lkS L (i : Int) = true)) ↔ firstS L := Iff.rfl
  by_cases h1 : firstS L
  · rw [if_pos (hiff.2 h1), if_pos h1]
    show F67.c0 k p L = _
    unfold F67.c0
    rw [refP_val k hk p L hL, Option.bind_some]
  · rw [if_neg (fun g => h1 (hiff.1 g)), if_neg h1]; rfl

/-- The plain law. -/
theorem lawShapes (p0Pr : Int) (p0L : List ua0) (p1Pr : Int) (p1P : List A5u8) (p2 p3 p4 : Int) (p5 : Bool) (h1 : okI .u8 p1Pr) (h1' : okL um3 p1P) (h2 : okI .u8 p2) :
    F0 2000 p0Pr p0L p1Pr p1P p2 p3 p4 p5 = some true := by
  unfold F0 F0.b F7 F7.b F9 F9.b
  rw [Option.bind_some]
  by_cases l1 : (p0L.length : Int) > 20
  · rw [if_pos (by simpa using l1)]; rfl
  rw [if_neg (by simpa using l1), Option.bind_some]
  by_cases l2 : (p1P.length : Int) > 20
  · rw [if_pos (by simpa using l2)]; rfl
  rw [if_neg (by simpa using l2)]
  obtain ⟨q, o, e, ho⟩ := some_some 2000 (by decide) p0Pr p0L p1Pr p1P p2 p3 p4 p5 (by omega) h1 (by omega) h1'.2 h2
  rw [e, Option.bind_some]
  dsimp only
  rw [validT_val 2000 (by decide) q o (by omega) (by omega), Option.bind_some, valid2_val 2000 q o (by omega) (by omega), Option.bind_some, if_pos rfl, fusedP_val 2000 (by decide) q o (by omega), Option.bind_some, fusedR_val 2000 (by decide) q o (by omega), Option.bind_some, if_pos rfl, isCP_val 2000 (by decide) q o (by omega), Option.bind_some, isCR_val 2000 (by decide) q o (by omega), Option.bind_some, if_pos rfl]
  rfl

end Go.Cn
