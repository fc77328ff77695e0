/- Fused symbols: what the program computes. -/
import Derived.Test.YtgbijhccgmmkgabGreatDoorTf13m0
import Derived.Test.YtgbijhccgmmkgabGreatDoorTd1
import Derived.Test.YtgbijhccgmmkgabGreatDoorTb1
import Derived.Test.YtgbijhccgmmkgabGreatDoorTb2
import Derived.Test.YtgbijhccgmmkgabGreatDoorTc3
set_option linter.unusedVariables false
noncomputable section
open Classical
namespace Go.Cn

open F27 in
theorem fusedP_l0 (k : Nat) (p : Int) (L : List ua0) (hL : L.length ≤ 1000) : ∀ (r : List ua0) (j n : Nat), r.length < j → L.drop n = r → n ≤ L.length →
    l0 k j p L L (L.length : Int) (n : Int) = if (∀ c ∈ r, f1 c) then some (.x0 p L) else some (.ret false) := by
  intro r
  induction r with
  | nil =>
    intro j n hj hr hn
    obtain ⟨j, rfl⟩ : ∃ i, j = i + 1 := ⟨j - 1, by simp at hj; omega⟩
    have := uh1 hr hn
    show l0_b k (l0 k j) _ _ _ _ _ = _
    unfold l0_b; rw [if_neg (by omega), if_pos (fun c hc => absurd hc (by simp))]
  | cons c r ih =>
    intro j n hj hr hn
    obtain ⟨j, rfl⟩ : ∃ i, j = i + 1 := ⟨j - 1, by simp at hj; omega⟩
    obtain ⟨g1, g2, g3, g4⟩ := ue8 hr
    simp only [List.length_cons] at hj
    show l0_b k (l0 k j) _ _ _ _ _ = _
    unfold l0_b
    rw [if_pos (by omega), g2, Option.bind_some, uc8 (by omega), ih j (n + 1) (by omega) g3 (by omega)]
    have bad : ¬ f1 c → (some (O0.ret false) : Option O0) = if (∀ x ∈ c :: r, f1 x) then some (.x0 p L) else some (.ret false) := fun h => by rw [if_neg (fun g => h (g c (by simp)))]
    have good : f1 c → (if (∀ x ∈ r, f1 x) then some (O0.x0 p L) else some (.ret false)) = if (∀ x ∈ c :: r, f1 x) then some (.x0 p L) else some (.ret false) := fun h => by
      have : (∀ x ∈ r, f1 x) ↔ (∀ x ∈ c :: r, f1 x) := by
        constructor
        · intro g x hx
          rcases List.mem_cons.1 hx with rfl | hx
          · exact h
          · exact g x hx
        · intro g x hx; exact g x (by simp [hx])
      simp only [this]
    by_cases c1 : c.Oddity < 0
    · rw [if_pos c1]; exact bad (fun h => by have := h.1; omega)
    rw [if_neg c1]
    by_cases c2 : c.Oddity > 7
    · rw [if_pos c2]; exact bad (fun h => by have := h.2.1; omega)
    rw [if_neg c2]
    by_cases c3 : c.Odd = true
    · rw [if_pos c3]; exact good ⟨by omega, by omega, fun h => by rw [c3] at h; exact absurd h (by decide)⟩
    · have c3' : c.Odd = false := by simpa using c3
      rw [if_neg c3]
      by_cases c6 : Int.tmod c.Dim 2 = 0
      case neg => rw [if_neg c6]; exact bad (fun h => c6 ((uo8 _).2 (h.2.2 c3').1))
      rw [if_pos c6]
      by_cases c5 : c.Oddity = 0
      case neg => rw [if_neg c5]; exact bad (fun h => c5 (h.2.2 c3').2)
      rw [if_pos c5]
      exact good ⟨by omega, by omega, fun _ => ⟨(uo8 _).1 c6, c5⟩⟩

open F27 in
theorem fusedP_l2 (k : Nat) (z : Int) (L : List ua0) (a : List Int) (P : List (List Int)) (u v : Int) (p : List Int) (hp : p.length ≤ 1000) (hin : inR L.length p) : ∀ (r : List Int) (j n : Nat) (s : Int), r.length < j → p.drop n = r → n ≤ p.length → 0 < n →
    l2 k j z L a s P u v p (p.length : Int) (n : Int) = if (∀ i ∈ r, (ati L i).Oddity = 0) then some (.x0 z L a (dimF L s r) P u v) else some (.ret false) := by
  intro r
  induction r with
  | nil =>
    intro j n s hj hr hn h0
    obtain ⟨j, rfl⟩ : ∃ i, j = i + 1 := ⟨j - 1, by simp at hj; omega⟩
    have := uh1 hr hn
    show l2_b k (l2 k j) _ _ _ _ _ _ _ _ _ _ = _
    unfold l2_b; rw [if_neg (by omega), if_pos (fun i hi => absurd hi (by simp))]; rfl
  | cons b r ih =>
    intro j n s hj hr hn h0
    obtain ⟨j, rfl⟩ : ∃ i, j = i + 1 := ⟨j - 1, by simp at hj; omega⟩
    obtain ⟨g1, g2, g3, g4⟩ := ue8 hr
    simp only [List.length_cons] at hj
    have hb := hin b (List.mem_of_getElem? g4)
    show l2_b k (l2 k j) _ _ _ _ _ _ _ _ _ _ = _
    unfold l2_b
    rw [if_pos (by omega), g2, Option.bind_some, ui4 hb.1 hb.2, Option.bind_some, if_pos (by omega), uc8 (by omega)]
    by_cases c : (ati L b).Oddity = 0
    · rw [if_pos c, ih j (n + 1) _ (by omega) g3 (by omega) (by omega)]
      have : (∀ i ∈ b :: r, (ati L i).Oddity = 0) ↔ (∀ i ∈ r, (ati L i).Oddity = 0) := by
        constructor
        · intro h i hi; exact h i (by simp [hi])
        · intro h i hi
          rcases List.mem_cons.1 hi with rfl | hi
          · exact c
          · exact h i hi
      simp only [this]
      rfl
    · rw [if_neg c, if_neg (fun h => c (h b (by simp)))]

open F27 in
theorem fusedP_l1 (k : Nat) (z : Int) (L : List ua0) (hL : ordR L) (hf : ∀ c ∈ L, f1 c) (P : List (List Int)) (hP : P.length ≤ 1000) (hk : 1001 < k) (hin : ∀ p ∈ P, p ≠ [] ∧ inR L.length p ∧ p.length ≤ 1000) : ∀ (r : List (List Int)) (j n : Nat), r.length < j → P.drop n = r → n ≤ P.length →
    l1 k j z L P (P.length : Int) (n : Int) = if (∀ p ∈ r, ftail L p ∧ fpar L p) then some .x0 else some (.ret false) := by
  intro r
  induction r with
  | nil =>
    intro j n hj hr hn
    obtain ⟨j, rfl⟩ : ∃ i, j = i + 1 := ⟨j - 1, by simp at hj; omega⟩
    have := uh1 hr hn
    show l1_b k (l1 k j) _ _ _ _ _ = _
    unfold l1_b; rw [if_neg (by omega), if_pos (fun p hp => absurd hp (by simp))]
  | cons b r ih =>
    intro j n hj hr hn
    obtain ⟨j, rfl⟩ : ∃ i, j = i + 1 := ⟨j - 1, by simp at hj; omega⟩
    obtain ⟨g1, g2, g3, g4⟩ := ue8 hr
    simp only [List.length_cons] at hj
    obtain ⟨b0, b1, b2⟩ := hin b (List.mem_of_getElem? g4)
    obtain ⟨a, q, rfl⟩ : ∃ a q, b = a :: q := by
      cases b with
      | nil => exact absurd rfl b0
      | cons a q => exact ⟨a, q, rfl⟩
    have ha := b1 a (by simp)
    have hbd := dimF_bd L hL (a :: q) 0 b1 (by omega) (by omega)
    have hf' := hf _ (uh2 ha.1 ha.2)
    have hpar : fpar L (a :: q) ↔ Int.tmod (IntKind.wrap .i64 (dimF L 0 (a :: q) - (ati L a).Oddity)) 2 = 0 := (par_sym' hbd ⟨hf'.1, hf'.2.1⟩).symm
    have all : (∀ p ∈ (a :: q) :: r, ftail L p ∧ fpar L p) ↔ ((ftail L (a :: q) ∧ fpar L (a :: q)) ∧ ∀ p ∈ r, ftail L p ∧ fpar L p) := by
      constructor
      · intro h; exact ⟨h _ (by simp), fun p hp => h p (by simp [hp])⟩
      · rintro ⟨h1, h2⟩ p hp
        rcases List.mem_cons.1 hp with rfl | hp
        · exact h1
        · exact h2 p hp
    -- the walk over the part
    have key : l2 k k z L (a :: q) 0 P (P.length : Int) (n : Int) (a :: q) ((a :: q).length : Int) 0 = if ftail L (a :: q) then some (.x0 z L (a :: q) (dimF L 0 (a :: q)) P (P.length : Int) (n : Int)) else some (.ret false) := by
      obtain ⟨m, rfl⟩ : ∃ i, k = i + 1 := ⟨k - 1, by omega⟩
      simp only [List.length_cons] at b2
      show l2_b (m + 1) (l2 (m + 1) m) _ _ _ _ _ _ _ _ _ _ = _
      unfold l2_b
      rw [if_pos (by simp only [List.length_cons]; omega), show elt (a :: q) 0 = some a from rfl, Option.bind_some, ui4 ha.1 ha.2, Option.bind_some, if_neg (by omega)]
      have := fusedP_l2 (m + 1) z L (a :: q) P (P.length : Int) (n : Int) (a :: q) (by simp; omega) b1 q m 1 (IntKind.wrap .i64 (0 + (ati L a).Dim)) (by omega) rfl (by simp) (by omega)
      rw [show IntKind.wrap .i64 (0 + 1) = ((1 : Nat) : Int) from rfl, this]
      by_cases ht : ftail L (a :: q)
      · rw [if_pos (show ∀ i ∈ q, (ati L i).Oddity = 0 from ht), if_pos ht]; rfl
      · rw [if_neg (show ¬ ∀ i ∈ q, (ati L i).Oddity = 0 from ht), if_neg ht]
    show l1_b k (l1 k j) _ _ _ _ _ = _
    unfold l1_b
    rw [if_pos (by omega), g2, Option.bind_some, key]
    by_cases ht : ftail L (a :: q)
    case neg => rw [if_neg ht, if_neg (fun h => ht (all.1 h).1.1)]; rfl
    rw [if_pos ht]
    show F27.c2 k (l1 k j) z L (a :: q) (dimF L 0 (a :: q)) P (P.length : Int) (n : Int) = _
    unfold F27.c2
    rw [show elt (a :: q) 0 = some a from rfl, Option.bind_some, ui4 ha.1 ha.2, Option.bind_some]
    by_cases c : Int.tmod (IntKind.wrap .i64 (dimF L 0 (a :: q) - (ati L a).Oddity)) 2 = 0
    · rw [if_pos c, uc8 (by omega), ih j (n + 1) (by omega) g3 (by omega)]
      have : (∀ p ∈ (a :: q) :: r, ftail L p ∧ fpar L p) ↔ (∀ p ∈ r, ftail L p ∧ fpar L p) := ⟨fun h => (all.1 h).2, fun h => all.2 ⟨⟨ht, hpar.2 c⟩, h⟩⟩
      simp only [this]
    · rw [if_neg c, if_neg (fun h => c (hpar.1 (all.1 h).1.2))]

theorem fusedP_val (k : Nat) (hk : 1100 ≤ k) (p : Int) (L : List ua0) (hL : L.length ≤ 900) : F27 k p L = some (decide (p = 2 ∧ fusedS L)) := by
  unfold F27 F27.b
  rw [listed_val k (by omega), Option.bind_some]
  by_cases ho : p = 2 ∧ ordR L
  case neg => rw [if_neg (by simpa using ho), decide_eq_false (p := p = 2 ∧ fusedS L) (fun h => ho ⟨h.1, h.2.1⟩)]
  rw [if_pos (by simpa using ho)]
  have key := fusedP_l0 k p L (by omega) L k 0 (by omega) rfl (by omega)
  have e0 : ((0 : Nat) : Int) = 0 := rfl
  rw [e0] at key
  rw [key]
  by_cases h1 : ∀ c ∈ L, f1 c
  case neg => rw [if_neg h1, decide_eq_false (p := p = 2 ∧ fusedS L) (fun h => h1 h.2.2.1)]; rfl
  rw [if_pos h1]
  show F27.c0 k p L = _
  unfold F27.c0
  obtain ⟨q1, q2⟩ := ue9 L
  rw [ug5 k p L (by omega) (by omega) (ord_exp ho.2), Option.bind_some]
  have key2 := fusedP_l1 k p L ho.2 h1 (partsS L) (by omega) (by omega) (fun a ha => ⟨(q2 a ha).1, (q2 a ha).2.1, by have := (q2 a ha).2.2; omega⟩) (partsS L) k 0 (by omega) rfl (by omega)
  rw [e0] at key2
  rw [key2]
  by_cases h3 : ∀ p ∈ partsS L, ftail L p ∧ fpar L p
  · rw [if_pos h3, decide_eq_true (p := p = 2 ∧ fusedS L) ⟨ho.1, ho.2, h1, fun p hp => (h3 p hp).1, fun p hp => (h3 p hp).2⟩]; rfl
  · rw [if_neg h3, decide_eq_false (p := p = 2 ∧ fusedS L) (fun h => h3 fun p hp => ⟨h.2.2.2.1 p hp, h.2.2.2.2 p hp⟩)]; rfl

end Go.Cn
