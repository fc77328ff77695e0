/- A walk of a sign: what the program and the document compute. -/
import Derived.Test.YtgbijhccgmmkgaaGreatDoorTf11m13
import Derived.Test.YtgbijhccgmmkgaaGreatDoorTf11m17
import Derived.Test.YtgbijhccgmmkgaaGreatDoorTy11
import Derived.Test.YtgbijhccgmmkgaaGreatDoorTf11m0
import Derived.Test.YtgbijhccgmmkgaaGreatDoorTf11m11
import Derived.Test.YtgbijhccgmmkgaaGreatDoorTf11m8
import Derived.Test.YtgbijhccgmmkgaaGreatDoorProg
import Derived.Test.YtgbijhccgmmkgaaGreatDoorTf11m5
import Derived.Test.YtgbijhccgmmkgaaGreatDoorTf11m3
import Derived.Test.YtgbijhccgmmkgaaGreatDoorTd2
import Derived.Test.YtgbijhccgmmkgaaGreatDoorTa5
import Derived.Test.YtgbijhccgmmkgaaGreatDoorTe1
set_option linter.unusedVariables false
noncomputable section
open Classical
namespace Go.Cn

theorem pt_nil {L : List Constituent} {n : Nat} (h : memS L n = false) : ptS (partsS L) (n : Int) = [] := by
  unfold ptS
  cases hf : (partsS L).find? (fun p => p.contains (n : Int)) with
  | none => rfl
  | some p =>
    have h1 := List.find?_some hf
    have h2 := List.mem_of_find?_eq_some hf
    have h3 : (n : Int) ∈ p := by rw [← List.contains_iff_mem]; exact h1
    have := (part_is h2 h3).2
    rw [Int.toNat_natCast, h] at this
    exact absurd this (by decide)
theorem pt_cons {L : List Constituent} {n : Nat} (hn : n < L.length) (h : memS L n = true) : ∃ a r, ptS (partsS L) (n : Int) = a :: r := by
  obtain ⟨p, hp, hi, e⟩ := part_of hn h
  cases p with
  | nil => simp at hi
  | cons a r => exact ⟨a, r, e⟩

def add4F (L : List Constituent) : List Int → List Constituent
  | [] => L
  | i :: r => add4F (add4 L i) r

open F45 in
theorem walk_add (k : Nat) (x y : Int) (F : List Int) (N : Nat) (hF : F.length ≤ 1000) (hin : inR N F) : ∀ (r : List Int) (j n : Nat) (L : List Constituent), r.length < j → F.drop n = r → n ≤ F.length → L.length = N →
    l1b k j x y L F (F.length : Int) (n : Int) = some (x, y, add4F L r) := by
  intro r
  induction r with
  | nil =>
    intro j n L hj hr hn hL
    obtain ⟨j, rfl⟩ : ∃ i, j = i + 1 := ⟨j - 1, by simp at hj; omega⟩
    have := elt_end hr hn
    show l1b_b k (l1 k j) (l1b k j) _ _ _ _ _ _ = _
    unfold l1b_b; rw [if_neg (by omega)]; rfl
  | cons b r ih =>
    intro j n L hj hr hn hL
    obtain ⟨j, rfl⟩ : ∃ i, j = i + 1 := ⟨j - 1, by simp at hj; omega⟩
    obtain ⟨g1, g2, g3, g4⟩ := elt_drop hr
    simp only [List.length_cons] at hj
    have hb := hin b (List.mem_of_getElem? g4)
    show l1b_b k (l1 k j) (l1b k j) _ _ _ _ _ _ = _
    unfold l1b_b
    rw [if_pos (by omega), g2, Option.bind_some, elt_ati hb.1 (by omega), Option.bind_some, wrap_succ (by omega)]
    exact ih j (n + 1) (add4 L b) (by omega) g3 (by omega) (by rw [add4_len]; exact hL)

/-- the first constituents of the compartments of i - 1 and i -/
def firsts (p q : List Int) : List Int :=
  match p, q with
  | [], [] => []
  | [], b :: _ => [b]
  | a :: _, [] => [a]
  | a :: _, b :: _ => if a = b then [a] else [a, b]

theorem stS_firsts (L : List Constituent) (i : Int) : stS L i = add4F (setSg (setSg L i (IntKind.wrap .i64 (0 - (ati L i).Sign))) (i - 1) (IntKind.wrap .i64 (0 - (ati L (i - 1)).Sign))) (firsts (ptS (partsS L) (i - 1)) (ptS (partsS L) i)) := by
  unfold stS firsts
  cases ptS (partsS L) (i - 1) with
  | nil =>
    cases ptS (partsS L) i with
    | nil => simp [add4F]
    | cons b q => simp [add4F]
  | cons a p =>
    cases ptS (partsS L) i with
    | nil => simp [add4F]
    | cons b q =>
      by_cases h : a = b
      · simp [add4F, h]
      · simp [add4F, h]

open F45 in
theorem walk_first (k : Nat) (hk : 1100 ≤ k) (p : Int) (L : List Constituent) (z y : Int) (O : List Constituent) (i : Nat) (hL : L.length ≤ 900) (hE : expOk L) (h1 : 1 ≤ i) (h2 : i < L.length) :
    ((l0 k k p L z y O ((i - 1 : Nat) : Int) (i : Int) 2 0).bind fun o => match o with | .x0 v0 v1 v2 => F45.c2 k v0 v1 v2 | .x1 v0 v1 v2 v3 => F45.c3 k v0 v1 v2 v3) =
      (match firsts (ptS (partsS L) ((i - 1 : Nat) : Int)) (ptS (partsS L) (i : Int)) with | [] => F45.c2 k z y O | F => F45.c3 k z y O F) := by
  obtain ⟨j, rfl⟩ : ∃ m, k = m + 3 := ⟨k - 3, by omega⟩
  have cm : ∀ n : Nat, n < L.length → F51 (j + 3) p L (n : Int) = some (ptS (partsS L) (n : Int)) := fun n hn => compartment_val (j + 3) p L n hL (by omega) hE (by omega)
  have e01 : IntKind.wrap .i64 (0 + 1) = 1 := rfl
  have e12 : IntKind.wrap .i64 (1 + 1) = 2 := rfl
  have n1 : elt [((i - 1 : Nat) : Int), (i : Int)] 0 = some ((i - 1 : Nat) : Int) := rfl
  have n2 : elt [((i - 1 : Nat) : Int), (i : Int)] 1 = some (i : Int) := rfl
  have a1 : elt L ((i - 1 : Nat) : Int) = some (ati L ((i - 1 : Nat) : Int)) := elt_ati (by omega) (by omega)
  have a2 : elt L (i : Int) = some (ati L (i : Int)) := elt_ati (by omega) (by omega)
  have end0 : l0 (j + 3) (j + 1) p L z y O ((i - 1 : Nat) : Int) (i : Int) 2 2 = some (.x0 z y O) := by
    show l0_b (j + 3) (l0 (j + 3) j) (l0b (j + 3) j) _ _ _ _ _ _ _ _ _ = _
    unfold l0_b; rw [if_neg (by decide)]
  have end1 : ∀ F, l0b (j + 3) (j + 1) p L z y O F ((i - 1 : Nat) : Int) (i : Int) 2 2 = some (.x1 z y O F) := by
    intro F
    show l0b_b (j + 3) (l0 (j + 3) j) (l0b (j + 3) j) _ _ _ _ _ _ _ _ _ _ = _
    unfold l0b_b; rw [if_neg (by decide)]
  have fst : l0 (j + 3) (j + 3) p L z y O ((i - 1 : Nat) : Int) (i : Int) 2 0 = l0_b (j + 3) (l0 (j + 3) (j + 2)) (l0b (j + 3) (j + 2)) p L z y O ((i - 1 : Nat) : Int) (i : Int) 2 0 := rfl
  have snd0 : l0 (j + 3) (j + 2) p L z y O ((i - 1 : Nat) : Int) (i : Int) 2 1 = l0_b (j + 3) (l0 (j + 3) (j + 1)) (l0b (j + 3) (j + 1)) p L z y O ((i - 1 : Nat) : Int) (i : Int) 2 1 := rfl
  have snd1 : ∀ F, l0b (j + 3) (j + 2) p L z y O F ((i - 1 : Nat) : Int) (i : Int) 2 1 = l0b_b (j + 3) (l0 (j + 3) (j + 1)) (l0b (j + 3) (j + 1)) p L z y O F ((i - 1 : Nat) : Int) (i : Int) 2 1 := fun F => rfl
  rw [fst]
  unfold l0_b
  rw [if_pos (by decide), n1, Option.bind_some, a1, Option.bind_some, e01]
  by_cases m1 : memS L (i - 1) = true
  · obtain ⟨a, r, ep⟩ := pt_cons (by omega) m1
    have m1' : (ati L ((i - 1 : Nat) : Int)).Odd = true := m1
    rw [if_pos m1', cm (i - 1) (by omega), Option.bind_some, ep, show elt (a :: r) 0 = some a from rfl, Option.bind_some, snd1]
    unfold l0b_b
    rw [if_pos (by decide), n2, Option.bind_some, a2, Option.bind_some, e12]
    by_cases m2 : memS L i = true
    · obtain ⟨b, q, eq⟩ := pt_cons h2 m2
      have m2' : (ati L (i : Int)).Odd = true := m2
      rw [if_pos m2', cm i h2, Option.bind_some, eq, show elt (b :: q) 0 = some b from rfl, Option.bind_some, if_neg (by simp), show elt [a] 0 = some a from rfl, Option.bind_some]
      by_cases h : a = b
      · rw [if_pos h, end1]; simp [firsts, h]
      · rw [if_neg h, if_pos (by simp), end1]; simp [firsts, h]
    · have m2' : ¬ (ati L (i : Int)).Odd = true := m2
      rw [if_neg m2', end1, pt_nil (by simpa using m2)]; simp [firsts]
  · have m1' : ¬ (ati L ((i - 1 : Nat) : Int)).Odd = true := m1
    rw [if_neg m1', snd0, pt_nil (by simpa using m1)]
    unfold l0_b
    rw [if_pos (by decide), n2, Option.bind_some, a2, Option.bind_some, e12]
    by_cases m2 : memS L i = true
    · obtain ⟨b, q, eq⟩ := pt_cons h2 m2
      have m2' : (ati L (i : Int)).Odd = true := m2
      rw [if_pos m2', cm i h2, Option.bind_some, eq, show elt (b :: q) 0 = some b from rfl, Option.bind_some, end1]; simp [firsts]
    · have m2' : ¬ (ati L (i : Int)).Odd = true := m2
      rw [if_neg m2', end0, pt_nil (by simpa using m2)]; simp [firsts]

theorem firsts_ok {L : List Constituent} (a b : Int) : inR L.length (firsts (ptS (partsS L) a) (ptS (partsS L) b)) ∧ (firsts (ptS (partsS L) a) (ptS (partsS L) b)).length ≤ 2 := by
  have hp := (ptS_ok L a).1; have hq := (ptS_ok L b).1
  unfold firsts
  cases h1 : ptS (partsS L) a with
  | nil =>
    cases h2 : ptS (partsS L) b with
    | nil => exact ⟨fun i hi => absurd hi (by simp), by simp⟩
    | cons y q => rw [h2] at hq; exact ⟨fun i hi => by simp at hi; subst hi; exact hq _ (by simp), by simp⟩
  | cons x p =>
    rw [h1] at hp
    cases h2 : ptS (partsS L) b with
    | nil => exact ⟨fun i hi => by simp at hi; subst hi; exact hp _ (by simp), by simp⟩
    | cons y q =>
      rw [h2] at hq
      dsimp only
      split
      · exact ⟨fun i hi => by simp at hi; subst hi; exact hp _ (by simp), by simp⟩
      · exact ⟨fun i hi => by
          simp at hi
          rcases hi with rfl | rfl
          · exact hp _ (by simp)
          · exact hq _ (by simp), by simp⟩

def wkS (p : Int) (L : List Constituent) (i : Int) : Int × List Constituent × Bool := if (p = 2 ∧ fusedS L) ∧ 1 ≤ i ∧ i < (L.length : Int) ∧ lkS L i = true then (p, stS L i, true) else (0, [], false)
theorem walkP_val (k : Nat) (hk : 1100 ≤ k) (p : Int) (L : List Constituent) (i : Int) (hL : L.length ≤ 900) : F45 k p L i = some (wkS p L i) := by
  unfold F45 F45.b wkS
  rw [fusedP_val k hk p L hL, Option.bind_some]
  by_cases h : p = 2 ∧ fusedS L
  case neg => rw [if_neg (by simpa using h), if_neg (fun g => h g.1)]
  rw [if_pos (by simpa using h)]
  by_cases h1 : i < 1
  · rw [if_pos h1, if_neg (fun g => by have := g.2.1; omega)]
  rw [if_neg h1]
  by_cases h2 : i ≥ (L.length : Int)
  · rw [if_pos h2, if_neg (fun g => by have := g.2.2.1; omega)]
  have hE := ord_exp h.2.1
  rw [if_neg h2, linkedP_val k p L i hL (by omega) hE (by omega) (by omega), Option.bind_some]
  by_cases h3 : lkS L i = true
  case neg => rw [if_neg h3, if_neg (fun g => h3 g.2.2.2)]
  have h8 := ordR_len h.2.1
  rw [if_pos h3, copiedP_val k p L h8.1 (by omega), Option.bind_some, if_pos ⟨h, by omega, by omega, h3⟩]
  show F45.c1 k p L 0 p L i = _
  unfold F45.c1
  obtain ⟨n, hn⟩ : ∃ n : Nat, i = (n : Int) := ⟨i.toNat, by omega⟩
  subst hn
  have hw : IntKind.wrap .i64 ((n : Int) - 1) = ((n - 1 : Nat) : Int) := by rw [wrap_id (by omega) (by omega)]; omega
  have hi1 : ((n - 1 : Nat) : Int) = (n : Int) - 1 := by omega
  obtain ⟨s', hs'⟩ : ∃ s', s' = IntKind.wrap .i64 (0 - (ati L ((n - 1 : Nat) : Int)).Sign) := ⟨_, rfl⟩
  obtain ⟨s, hs⟩ : ∃ s, s = IntKind.wrap .i64 (0 - (ati L (n : Int)).Sign) := ⟨_, rfl⟩
  rw [hw, elt_ati (by omega) (by omega), Option.bind_some, elt_ati (by omega) (by omega), Option.bind_some]
  have e1 : List.set L ((n - 1 : Nat) : Int).toNat (Constituent.mk (ati L ((n - 1 : Nat) : Int)).Exp (ati L ((n - 1 : Nat) : Int)).Dim (IntKind.wrap .i64 (0 - (ati L ((n - 1 : Nat) : Int)).Sign)) (ati L ((n - 1 : Nat) : Int)).Odd (ati L ((n - 1 : Nat) : Int)).Oddity) = setSg L ((n - 1 : Nat) : Int) s' := by rw [hs']; rfl
  have e2 : ati (setSg L ((n - 1 : Nat) : Int) s') (n : Int) = ati L (n : Int) := ati_set_ne (by omega)
  rw [e1, elt_ati (by omega) (by rw [setSg_len]; omega), Option.bind_some, e2]
  have e3 : List.set (setSg L ((n - 1 : Nat) : Int) s') (n : Int).toNat (Constituent.mk (ati L (n : Int)).Exp (ati L (n : Int)).Dim (IntKind.wrap .i64 (0 - (ati L (n : Int)).Sign)) (ati L (n : Int)).Odd (ati L (n : Int)).Oddity) = setSg (setSg L (n : Int) s) ((n - 1 : Nat) : Int) s' := by
    have e4 : ati (setSg L (n : Int) s) ((n - 1 : Nat) : Int) = ati L ((n - 1 : Nat) : Int) := ati_set_ne (by omega)
    rw [← hs]
    unfold setSg at e4 ⊢
    rw [e4]
    exact List.set_comm _ _ (by omega)
  rw [e3]
  refine (walk_first k hk p L 0 p _ n hL hE (by omega) (by omega)).trans ?_
  have hst := stS_firsts L (n : Int)
  rw [← hi1, ← hs, ← hs'] at hst
  obtain ⟨f1, f2⟩ := firsts_ok (L := L) ((n - 1 : Nat) : Int) (n : Int)
  rw [hst]
  obtain ⟨O, hO⟩ : ∃ O, O = setSg (setSg L (n : Int) s) ((n - 1 : Nat) : Int) s' := ⟨_, rfl⟩
  have hOl : O.length = L.length := by rw [hO, setSg_len, setSg_len]
  rw [← hO]
  cases hF : firsts (ptS (partsS L) ((n - 1 : Nat) : Int)) (ptS (partsS L) (n : Int)) with
  | nil =>
    dsimp only
    unfold F45.c2
    obtain ⟨j, rfl⟩ : ∃ m, k = m + 1 := ⟨k - 1, by omega⟩
    have : F45.l1 (j + 1) (j + 1) 0 p O 0 0 = some (0, p, O) := by
      show F45.l1_b (j + 1) (F45.l1 (j + 1) j) (F45.l1b (j + 1) j) _ _ _ _ _ = _
      unfold F45.l1_b; rw [if_neg (by decide)]
    rw [this]; rfl
  | cons a r =>
    dsimp only
    unfold F45.c3
    rw [hF] at f1 f2
    have := walk_add k 0 p (a :: r) L.length (by omega) f1 (a :: r) k 0 O (by omega) rfl (by simp) hOl
    have e0 : ((0 : Nat) : Int) = 0 := rfl
    rw [e0] at this
    rw [this]; rfl

end Go.Cn
