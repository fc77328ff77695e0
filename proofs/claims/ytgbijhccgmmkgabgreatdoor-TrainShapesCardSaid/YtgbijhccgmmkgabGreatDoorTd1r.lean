/- Fused symbols: what the document computes. -/
import Derived.Test.YtgbijhccgmmkgabGreatDoorTf13m6
import Derived.Test.YtgbijhccgmmkgabGreatDoorTd1
set_option linter.unusedVariables false
noncomputable section
open Classical
namespace Go.Cn

open F21 in
theorem fusedR_l0 (k : Nat) (p : Int) (L : List ua0) (hL : L.length ≤ 900) (hk : L.length + 1 < k) : ∀ (m j n : Nat), n + m = L.length → m < j →
    l0 k j p L L (L.length : Int) (n : Int) = if (∀ i, n ≤ i → i < L.length → fplace L i) then some (.x0 p L) else some (.ret false) := by
  intro m
  induction m with
  | zero =>
    intro j n hn hj
    obtain ⟨j, rfl⟩ : ∃ i, j = i + 1 := ⟨j - 1, by omega⟩
    show l0_b k (l0 k j) _ _ _ _ _ = _
    unfold l0_b; rw [if_neg (by omega), if_pos (fun i h1 h2 => by omega)]
  | succ m ih =>
    intro j n hn hj
    obtain ⟨j, rfl⟩ : ∃ i, j = i + 1 := ⟨j - 1, by omega⟩
    have hlt : n < L.length := by omega
    show l0_b k (l0 k j) _ _ _ _ _ = _
    unfold l0_b
    rw [if_pos (by omega), ud5 (by omega) (by omega), Option.bind_some, uc4 (by omega), ih j (n + 1) (by omega) (by omega)]
    have bad : ¬ fplace L n → (some (O0.ret false) : Option O0) = if (∀ i, n ≤ i → i < L.length → fplace L i) then some (.x0 p L) else some (.ret false) := fun h => by rw [if_neg (fun g => h (g n (Nat.le_refl n) hlt))]
    have good : fplace L n → (if (∀ i, n + 1 ≤ i → i < L.length → fplace L i) then some (O0.x0 p L) else some (.ret false)) = if (∀ i, n ≤ i → i < L.length → fplace L i) then some (.x0 p L) else some (.ret false) := fun h => by
      have : (∀ i, n + 1 ≤ i → i < L.length → fplace L i) ↔ (∀ i, n ≤ i → i < L.length → fplace L i) := by
        constructor
        · intro g i h1 h2
          by_cases e : i = n
          · subst e; exact h
          · exact g i (by omega) h2
        · intro g i h1 h2; exact g i (by omega) h2
      simp only [this]
    by_cases c1 : (ati L (n : Int)).Oddity < 0
    · rw [if_pos c1]; exact bad (fun h => by have := h.1.1; omega)
    rw [if_neg c1]
    by_cases c2 : (ati L (n : Int)).Oddity > 7
    · rw [if_pos c2]; exact bad (fun h => by have := h.1.2.1; omega)
    rw [if_neg c2]
    by_cases c3 : (ati L (n : Int)).Odd = true
    · obtain ⟨q, hq, hi, hpt⟩ := part_of hlt c3
      obtain ⟨a, r, rfl⟩ : ∃ a r, q = a :: r := by
        cases q with
        | nil => simp at hi
        | cons a r => exact ⟨a, r, rfl⟩
      have hf1 : f1 (ati L (n : Int)) := ⟨by omega, by omega, fun h => by rw [c3] at h; exact absurd h (by decide)⟩
      rw [if_pos c3, if_pos c3, up2 k L _ hL hk, Option.bind_some, hpt, show elt (a :: r) 0 = some a from rfl, Option.bind_some]
      by_cases c4 : a = (n : Int)
      · rw [if_pos c4]; exact good ⟨hf1, fun _ => .inl (by rw [hpt]; exact c4)⟩
      · rw [if_neg c4]
        by_cases c5 : (ati L (n : Int)).Oddity = 0
        · rw [if_pos c5]; exact good ⟨hf1, fun _ => .inr c5⟩
        · rw [if_neg c5]
          refine bad (fun h => ?_)
          rcases h.2 c3 with g | g
          · rw [hpt] at g; exact c4 g
          · exact c5 g
    · have c3' : (ati L (n : Int)).Odd = false := by simpa using c3
      rw [if_neg c3]
      by_cases c6 : Int.tmod (ati L (n : Int)).Dim 2 = 0
      case neg => rw [if_neg c6]; exact bad (fun h => c6 ((ug9 _).2 (h.1.2.2 c3').1))
      rw [if_pos c6]
      by_cases c5 : (ati L (n : Int)).Oddity = 0
      case neg => rw [if_neg c5]; exact bad (fun h => c5 (h.1.2.2 c3').2)
      rw [if_pos c5, if_neg c3]
      exact good ⟨⟨by omega, by omega, fun _ => ⟨(ug9 _).1 c6, c5⟩⟩, fun h => absurd h c3⟩

open F21 in
theorem fusedR_l2 (k : Nat) (z : Int) (L : List ua0) (a : List Int) (P : List (List Int)) (u v : Int) (p : List Int) (hp : p.length ≤ 1000) (hin : inR L.length p) : ∀ (r : List Int) (j n : Nat) (s : Int), r.length < j → p.drop n = r → n ≤ p.length →
    l2 k j z L a s P u v p (p.length : Int) (n : Int) = some (z, L, a, dimF L s r, P, u, v) := by
  intro r
  induction r with
  | nil =>
    intro j n s hj hr hn
    obtain ⟨j, rfl⟩ : ∃ i, j = i + 1 := ⟨j - 1, by simp at hj; omega⟩
    have := uf4 hr hn
    show l2_b k (l2 k j) _ _ _ _ _ _ _ _ _ _ = _
    unfold l2_b; rw [if_neg (by omega)]; rfl
  | cons b r ih =>
    intro j n s hj hr hn
    obtain ⟨j, rfl⟩ : ∃ i, j = i + 1 := ⟨j - 1, by simp at hj; omega⟩
    obtain ⟨g1, g2, g3, g4⟩ := ue3 hr
    simp only [List.length_cons] at hj
    have hb := hin b (List.mem_of_getElem? g4)
    show l2_b k (l2 k j) _ _ _ _ _ _ _ _ _ _ = _
    unfold l2_b
    rw [if_pos (by omega), g2, Option.bind_some, ud5 hb.1 hb.2, Option.bind_some, uc4 (by omega), ih j (n + 1) _ (by omega) g3 (by omega)]
    rfl

open F21 in
theorem fusedR_l1 (k : Nat) (z : Int) (L : List ua0) (hL : ordR L) (hf : ∀ c ∈ L, f1 c) (P : List (List Int)) (hP : P.length ≤ 1000) (hk : 1001 < k) (hin : ∀ p ∈ P, p ≠ [] ∧ inR L.length p ∧ p.length ≤ 1000) : ∀ (r : List (List Int)) (j n : Nat), r.length < j → P.drop n = r → n ≤ P.length →
    l1 k j z L P (P.length : Int) (n : Int) = if (∀ p ∈ r, fpar L p) then some .x0 else some (.ret false) := by
  intro r
  induction r with
  | nil =>
    intro j n hj hr hn
    obtain ⟨j, rfl⟩ : ∃ i, j = i + 1 := ⟨j - 1, by simp at hj; omega⟩
    have := uf4 hr hn
    show l1_b k (l1 k j) _ _ _ _ _ = _
    unfold l1_b; rw [if_neg (by omega), if_pos (fun p hp => absurd hp (by simp))]
  | cons b r ih =>
    intro j n hj hr hn
    obtain ⟨j, rfl⟩ : ∃ i, j = i + 1 := ⟨j - 1, by simp at hj; omega⟩
    obtain ⟨g1, g2, g3, g4⟩ := ue3 hr
    simp only [List.length_cons] at hj
    obtain ⟨b0, b1, b2⟩ := hin b (List.mem_of_getElem? g4)
    have key := fusedR_l2 k z L b P (P.length : Int) (n : Int) b b2 b1 b k 0 0 (by omega) rfl (by omega)
    have e0 : ((0 : Nat) : Int) = 0 := rfl
    rw [e0] at key
    show l1_b k (l1 k j) _ _ _ _ _ = _
    unfold l1_b
    rw [if_pos (by omega), g2, Option.bind_some, key]
    show F21.c2 k (l1 k j) z L b (dimF L 0 b) P (P.length : Int) (n : Int) = _
    unfold F21.c2
    obtain ⟨a, q, rfl⟩ : ∃ a q, b = a :: q := by
      cases b with
      | nil => exact absurd rfl b0
      | cons a q => exact ⟨a, q, rfl⟩
    have ha := b1 a (by simp)
    have hbd := dimF_bd L hL (a :: q) 0 b1 (by omega) (by omega)
    have hf' := hf _ (ati_mem ha.1 ha.2)
    have hiff := par_sym hbd ⟨hf'.1, hf'.2.1⟩
    have hpar : fpar L (a :: q) ↔ Int.tmod (IntKind.wrap .i64 ((ati L a).Oddity - dimF L 0 (a :: q))) 2 = 0 := hiff.symm
    rw [show elt (a :: q) 0 = some a from rfl, Option.bind_some, ud5 ha.1 ha.2, Option.bind_some]
    by_cases c : Int.tmod (IntKind.wrap .i64 ((ati L a).Oddity - dimF L 0 (a :: q))) 2 = 0
    · rw [if_pos c, uc4 (by omega), ih j (n + 1) (by omega) g3 (by omega)]
      have : (∀ p ∈ (a :: q) :: r, fpar L p) ↔ (∀ p ∈ r, fpar L p) := by
        constructor
        · intro h p hp; exact h p (by simp [hp])
        · intro h p hp
          rcases List.mem_cons.1 hp with rfl | hp
          · exact hpar.2 c
          · exact h p hp
      simp only [this]
    · rw [if_neg c, if_neg (fun h => c (hpar.1 (h (a :: q) (by simp))))]

theorem fusedR_val (k : Nat) (hk : 1100 ≤ k) (p : Int) (L : List ua0) (hL : L.length ≤ 900) : F21 k p L = some (decide (p = 2 ∧ fusedS L)) := by
  unfold F21 F21.b
  by_cases hp : p = 2
  case neg => rw [if_neg hp, decide_eq_false (p := p = 2 ∧ fusedS L) (fun h => hp h.1)]
  rw [if_pos hp, order_val k L (by omega) (by omega), Option.bind_some]
  by_cases ho : ordR L
  case neg => rw [if_neg (by simpa using ho), decide_eq_false (p := p = 2 ∧ fusedS L) (fun h => ho h.2.1)]
  rw [if_pos (by simpa using ho)]
  have key := fusedR_l0 k p L hL (by omega) L.length k 0 (by omega) (by omega)
  have e0 : ((0 : Nat) : Int) = 0 := rfl
  rw [e0] at key
  rw [key]
  have hpl := fplace_iff L
  have hz : (∀ i, 0 ≤ i → i < L.length → fplace L i) ↔ (∀ n, n < L.length → fplace L n) := ⟨fun h n hn => h n (Nat.zero_le _) hn, fun h i _ hi => h i hi⟩
  by_cases hc : ∀ i, 0 ≤ i → i < L.length → fplace L i
  case neg => rw [if_neg hc, decide_eq_false (p := p = 2 ∧ fusedS L) (fun h => hc (hz.2 (hpl.2 ⟨h.2.2.1, h.2.2.2.1⟩)))]; rfl
  rw [if_pos hc]
  obtain ⟨h1, h2⟩ := hpl.1 (hz.1 hc)
  show F21.c0 k p L = _
  unfold F21.c0
  obtain ⟨q1, q2⟩ := uh4 L
  rw [parts_val k L (by omega) (by omega), Option.bind_some]
  have key2 := fusedR_l1 k p L ho h1 (partsS L) (by omega) (by omega) (fun a ha => ⟨(q2 a ha).1, (q2 a ha).2.1, by have := (q2 a ha).2.2; omega⟩) (partsS L) k 0 (by omega) rfl (by omega)
  rw [e0] at key2
  rw [key2]
  by_cases h3 : ∀ p ∈ partsS L, fpar L p
  · rw [if_pos h3, decide_eq_true (p := p = 2 ∧ fusedS L) ⟨hp, ho, h1, h2, h3⟩]; rfl
  · rw [if_neg h3, decide_eq_false (p := p = 2 ∧ fusedS L) (fun h => h3 h.2.2.2.2)]; rfl

end Go.Cn
