/- The law of compartments and trains. -/
import Derived.Test.YtgbijhccgmmkgaaGreatDoorTf11m19
import Derived.Test.YtgbijhccgmmkgaaGreatDoorTf11m26
import Derived.Test.YtgbijhccgmmkgaaGreatDoorTf11m3
import Derived.Test.YtgbijhccgmmkgaaGreatDoorTf11m7
import Derived.Test.YtgbijhccgmmkgaaGreatDoorTc2
import Derived.Test.YtgbijhccgmmkgaaGreatDoorTd2
import Derived.Test.YtgbijhccgmmkgaaGreatDoorSo1
set_option linter.unusedVariables false
noncomputable section
open Classical
namespace Go.Cn

open F11 in
theorem sp_in (k : Nat) (P : List (List Int)) (i : Nat) (p : List Int) (x y : Int) (hi : elt P (i : Int) = some p) (hp : p.length ≤ 1000) : ∀ (r : List Int) (j n : Nat), r.length < j → p.drop n = r → n ≤ p.length →
    l1 k j P P (i : Int) x y (p.length : Int) (n : Int) = some (.x0 P P x y) := by
  intro r
  induction r with
  | nil =>
    intro j n hj hr hn
    obtain ⟨j, rfl⟩ : ∃ i, j = i + 1 := ⟨j - 1, by simp at hj; omega⟩
    have := elt_end hr hn
    show l1_b k (l1 k j) _ _ _ _ _ _ _ = _
    unfold l1_b; rw [if_neg (by omega)]
  | cons b r ih =>
    intro j n hj hr hn
    obtain ⟨j, rfl⟩ : ∃ i, j = i + 1 := ⟨j - 1, by simp at hj; omega⟩
    obtain ⟨g1, g2, g3, g4⟩ := elt_drop hr
    simp only [List.length_cons] at hj
    show l1_b k (l1 k j) _ _ _ _ _ _ _ = _
    unfold l1_b
    rw [if_pos (by omega), hi, Option.bind_some, g2, Option.bind_some, Option.bind_some, g2, Option.bind_some, if_pos rfl, wrap_succ (by omega)]
    exact ih j (n + 1) (by omega) g3 (by omega)

open F11 in
theorem sp_loop (k : Nat) (P : List (List Int)) (hP : P.length ≤ 1000) (hk : 1001 < k) (hp : ∀ p ∈ P, p.length ≤ 1000) : ∀ (r : List (List Int)) (j n : Nat), r.length < j → P.drop n = r → n ≤ P.length →
    l0 k j P P (P.length : Int) (n : Int) = some .x0 := by
  intro r
  induction r with
  | nil =>
    intro j n hj hr hn
    obtain ⟨j, rfl⟩ : ∃ i, j = i + 1 := ⟨j - 1, by simp at hj; omega⟩
    have := elt_end hr hn
    show l0_b k (l0 k j) _ _ _ _ = _
    unfold l0_b; rw [if_neg (by omega)]
  | cons b r ih =>
    intro j n hj hr hn
    obtain ⟨j, rfl⟩ : ∃ i, j = i + 1 := ⟨j - 1, by simp at hj; omega⟩
    obtain ⟨g1, g2, g3, g4⟩ := elt_drop hr
    simp only [List.length_cons] at hj
    have hb := hp b (List.mem_of_getElem? g4)
    show l0_b k (l0 k j) _ _ _ _ = _
    unfold l0_b
    have := sp_in k P n b (P.length : Int) (n : Int) g2 hb b k 0 (by omega) rfl (by omega)
    have e0 : ((0 : Nat) : Int) = 0 := rfl
    rw [e0] at this
    rw [if_pos (by omega), g2, Option.bind_some, Option.bind_some, if_pos rfl, this]
    show F11.c1 k (l0 k j) P P (P.length : Int) (n : Int) = _
    unfold F11.c1
    rw [wrap_succ (by omega)]
    exact ih j (n + 1) (by omega) g3 (by omega)

theorem sp_val (k : Nat) (P : List (List Int)) (hP : P.length ≤ 1000) (hk : 1001 < k) (hp : ∀ p ∈ P, p.length ≤ 1000) : F11 k P P = some true := by
  unfold F11 F11.b
  have := sp_loop k P hP hk hp P k 0 (by omega) rfl (by omega)
  have e0 : ((0 : Nat) : Int) = 0 := rfl
  rw [e0] at this
  rw [if_pos rfl, this]
  rfl

def pickS (p : Int) (L : List Constituent) (P : List (List Int)) : List (List Int) × Bool := if p = 2 ∧ (raw2 L ∨ fusedS L) then (P, true) else ([], false)
theorem compP_val (k : Nat) (hk : 1100 ≤ k) (p : Int) (L : List Constituent) (hL : L.length ≤ 900) : F63 k p L = some (pickS p L (partsS L)) := by
  unfold F63 F63.b pickS
  rw [validT_val k (by omega) p L (by omega) (by omega), Option.bind_some]
  by_cases h : p = 2 ∧ raw2 L
  · rw [if_pos (by simpa using h), compartments_val k p L (by omega) (by omega) (ord_exp h.2.1), if_pos ⟨h.1, .inl h.2⟩]; rfl
  rw [if_neg (by simpa using h), fusedP_val k hk p L hL, Option.bind_some]
  by_cases h' : p = 2 ∧ fusedS L
  · rw [if_pos (by simpa using h'), compartments_val k p L (by omega) (by omega) (ord_exp h'.2.1), if_pos ⟨h'.1, .inr h'.2⟩]; rfl
  · rw [if_neg (by simpa using h'), if_neg (fun g => by
      rcases g.2 with g2 | g2
      · exact h ⟨g.1, g2⟩
      · exact h' ⟨g.1, g2⟩)]
theorem compR_val (k : Nat) (hk : 1100 ≤ k) (p : Int) (L : List Constituent) (hL : L.length ≤ 900) : F19 k p L = some (pickS p L (partsS L)) := by
  unfold F19 F19.b pickS
  rw [valid2_val k p L (by omega) (by omega), Option.bind_some]
  by_cases h : p = 2 ∧ raw2 L
  · rw [if_pos (by simpa using h), parts_val k L (by omega) (by omega), if_pos ⟨h.1, .inl h.2⟩]; rfl
  rw [if_neg (by simpa using h), fusedR_val k hk p L hL, Option.bind_some]
  by_cases h' : p = 2 ∧ fusedS L
  · rw [if_pos (by simpa using h'), parts_val k L (by omega) (by omega), if_pos ⟨h'.1, .inr h'.2⟩]; rfl
  · rw [if_neg (by simpa using h'), if_neg (fun g => by
      rcases g.2 with g2 | g2
      · exact h ⟨g.1, g2⟩
      · exact h' ⟨g.1, g2⟩)]
theorem trainP_val (k : Nat) (hk : 1100 ≤ k) (p : Int) (L : List Constituent) (hL : L.length ≤ 900) : F69 k p L = some (pickS p L (trS L)) := by
  unfold F69 F69.b pickS
  rw [validT_val k (by omega) p L (by omega) (by omega), Option.bind_some]
  by_cases h : p = 2 ∧ raw2 L
  · rw [if_pos (by simpa using h), collect1_val k p L (by omega) (by omega) (ord_exp h.2.1), if_pos ⟨h.1, .inl h.2⟩]; rfl
  rw [if_neg (by simpa using h), fusedP_val k hk p L hL, Option.bind_some]
  by_cases h' : p = 2 ∧ fusedS L
  · rw [if_pos (by simpa using h'), collect1_val k p L (by omega) (by omega) (ord_exp h'.2.1), if_pos ⟨h'.1, .inr h'.2⟩]; rfl
  · rw [if_neg (by simpa using h'), if_neg (fun g => by
      rcases g.2 with g2 | g2
      · exact h ⟨g.1, g2⟩
      · exact h' ⟨g.1, g2⟩)]
theorem trainR_val (k : Nat) (hk : 1100 ≤ k) (p : Int) (L : List Constituent) (hL : L.length ≤ 900) : F33 k p L = some (pickS p L (trS L)) := by
  unfold F33 F33.b pickS
  rw [valid2_val k p L (by omega) (by omega), Option.bind_some]
  by_cases h : p = 2 ∧ raw2 L
  · rw [if_pos (by simpa using h), chains_val k L (by omega) (by omega), if_pos ⟨h.1, .inl h.2⟩]; rfl
  rw [if_neg (by simpa using h), fusedR_val k hk p L hL, Option.bind_some]
  by_cases h' : p = 2 ∧ fusedS L
  · rw [if_pos (by simpa using h'), chains_val k L (by omega) (by omega), if_pos ⟨h'.1, .inr h'.2⟩]; rfl
  · rw [if_neg (by simpa using h'), if_neg (fun g => by
      rcases g.2 with g2 | g2
      · exact h ⟨g.1, g2⟩
      · exact h' ⟨g.1, g2⟩)]

theorem pick_ok {p : Int} {L : List Constituent} {P : List (List Int)} (hP : P.length ≤ 1000) (hp : ∀ a ∈ P, a.length ≤ 1000) : (pickS p L P).1.length ≤ 1000 ∧ ∀ a ∈ (pickS p L P).1, a.length ≤ 1000 := by
  unfold pickS; split
  · exact ⟨hP, hp⟩
  · exact ⟨by simp, fun a ha => absurd ha (by simp)⟩

/-- The plain law. -/
theorem lawParts (p0Pr : Int) (p0L : List Constituent) (p1Pr : Int) (p1P : List A5u8) (p2 p3 p4 : Int) (p5 : Bool) (h1 : okI .u8 p1Pr) (h1' : okL ok_A5u8 p1P) (h2 : okI .u8 p2) :
    F0 2000 p0Pr p0L p1Pr p1P p2 p3 p4 p5 = some true := by
  unfold F0 F0.b F7 F7.b F9 F9.b
  rw [Option.bind_some]
  by_cases l1 : (p0L.length : Int) > 20
  · rw [if_pos (by simpa using l1)]; rfl
  rw [if_neg (by simpa using l1), Option.bind_some]
  by_cases l2 : (p1P.length : Int) > 20
  · rw [if_pos (by simpa using l2)]; rfl
  rw [if_neg (by simpa using l2)]
  obtain ⟨q, o, e, ho⟩ := some_some 2000 (by decide) p0Pr p0L p1Pr p1P p2 p3 p4 p5 (by omega) h1 (by omega) h1'.2 h2
  rw [e, Option.bind_some]
  dsimp only
  obtain ⟨a1, a2⟩ := parts_ok o
  obtain ⟨b1, b2⟩ := runs_ok (fun _ => true) (fun i => lkS o (i : Int)) o.length
  obtain ⟨c1, c2⟩ := pick_ok (p := q) (L := o) (P := partsS o) (by omega) (fun a ha => by have := (a2 a ha).2.2; omega)
  obtain ⟨d1, d2⟩ := pick_ok (p := q) (L := o) (P := trS o) (by show (runs _ _ _).length ≤ 1000; omega) (fun a ha => by have := (b2 a ha).2.2; omega)
  rw [compP_val 2000 (by decide) q o (by omega), Option.bind_some, compR_val 2000 (by decide) q o (by omega), Option.bind_some, trainP_val 2000 (by decide) q o (by omega), Option.bind_some, trainR_val 2000 (by decide) q o (by omega), Option.bind_some, if_pos rfl, if_pos rfl,
    sp_val 2000 _ c1 (by decide) c2, Option.bind_some, if_pos rfl, sp_val 2000 _ d1 (by decide) d2, Option.bind_some, if_pos rfl]
  rfl

end Go.Cn
