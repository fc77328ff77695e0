/- Legal constituents and raw 2-adic symbols: what the program computes. -/
import Derived.Test.YtgbijhccgmmkgabGreatDoorTf13m0
import Derived.Test.YtgbijhccgmmkgabGreatDoorTf13m1
import Derived.Test.YtgbijhccgmmkgabGreatDoorTa3
import Derived.Test.YtgbijhccgmmkgabGreatDoorTb1a
set_option linter.unusedVariables false
noncomputable section
open Classical
namespace Go.Cn

/-- as the program asks -/
def ascT (e : Int) : List ua0 → Prop
  | [] => True
  | c :: r => scS c ∧ e < c.Exp ∧ ascT c.Exp r

open F45 in
theorem listed_loop (k : Nat) (p : Int) (L : List ua0) (hL : L.length ≤ 8) : ∀ (r : List ua0) (j n : Nat) (s : Int), r.length < j → L.drop n = r → n ≤ L.length → 0 ≤ s → s ≤ 8 * n →
    ∀ e, -1 ≤ e → (n = 0 → e = -1) → (∀ m q, n = m + 1 → L[m]? = some q → e = q.Exp) →
    F45.l0 k j p L s L (L.length : Int) (n : Int) = if ascT e r then some (.x0 (s + dims r)) else some (.ret false) := by
  intro r
  induction r with
  | nil =>
    intro j n s hj hr hn s0 s1 e he0 he he'
    obtain ⟨j, rfl⟩ : ∃ i, j = i + 1 := ⟨j - 1, by simp at hj; omega⟩
    have hn' := uh1 hr hn
    show l0_b k (l0 k j) _ _ _ _ _ _ = _
    unfold l0_b
    rw [if_neg (by omega), if_pos (by simp [ascT])]
    simp [dims]
  | cons c r ih =>
    intro j n s hj hr hn s0 s1 e he0 he he'
    obtain ⟨j, rfl⟩ : ∃ i, j = i + 1 := ⟨j - 1, by simp at hj; omega⟩
    obtain ⟨g1, g2, g3, g4⟩ := ue8 hr
    simp only [List.length_cons] at hj
    show l0_b k (l0 k j) _ _ _ _ _ _ = _
    unfold l0_b
    rw [if_pos (by omega), g2, Option.bind_some, scaled_val, Option.bind_some]
    by_cases hs : scS c
    case neg => rw [if_neg (by simpa using hs), if_neg (fun h => hs h.1)]
    rw [if_pos (by simpa using hs)]
    have hs' := hs
    obtain ⟨b1, b2, b3, b4, b5⟩ := hs'
    have hw3 : IntKind.wrap .i64 (s + c.Dim) = s + c.Dim := uc5 (by omega) (by omega)
    have key : e < c.Exp → l0 k j p L (IntKind.wrap .i64 (s + c.Dim)) L (L.length : Int) (IntKind.wrap .i64 ((n : Int) + 1)) = if ascT e (c :: r) then some (.x0 (s + dims (c :: r))) else some (.ret false) := by
      intro hlt
      rw [hw3, uc8 (by omega), ih j (n + 1) (s + c.Dim) (by omega) g3 (by omega) (by omega) (by omega) c.Exp (by omega) (fun h => absurd h (by omega)) (fun m q hm hq => by
        have : m = n := by omega
        subst this
        rw [g4] at hq
        cases hq; rfl)]
      have hiff : ascT e (c :: r) ↔ ascT c.Exp r := ⟨fun h => h.2.2, fun h => ⟨hs, hlt, h⟩⟩
      simp only [hiff, dims, Int.add_assoc]
    cases n with
    | zero =>
      rw [if_neg (by simp)]
      have := he rfl
      exact key (by omega)
    | succ n =>
      rw [if_pos (by omega), wrap_pred (by omega)]
      have hq : L[n]? = some L[n] := List.getElem?_eq_getElem (by omega)
      rw [elt_nat, hq, Option.bind_some]
      have hqe := he' n _ rfl hq
      by_cases hlt : c.Exp ≤ L[n].Exp
      · rw [if_pos hlt, if_neg (fun h => by have := h.2.1; omega)]
      · rw [if_neg hlt]
        exact key (by omega)

theorem ascT_len : ∀ (r : List ua0) (e : Int), ascT e r → (r.length : Int) ≤ dims r
  | [], _, _ => by simp [dims]
  | c :: r, e, h => by
    have h1 := ascT_len r _ h.2.2
    have h2 := h.1.2.2.1
    simp only [dims, List.length_cons]
    omega
theorem ascT_same : ∀ (r : List ua0) (e s : Int), -1 ≤ e → 0 ≤ s → (ascR e s r ↔ (ascT e r ∧ (r = [] ∨ s + dims r ≤ 8)))
  | [], e, s, he, hs => by simp [ascR, ascT]
  | c :: r, e, s, he, hs => by
    constructor
    · intro h
      simp only [ascR] at h
      obtain ⟨a1, a2, a3, a4, a5, a6⟩ := h
      have ih := (ascT_same r c.Exp (s + c.Dim) (by omega) (by omega)).1 a6
      refine ⟨⟨⟨by omega, a2, a4, by omega, a3⟩, a1, ih.1⟩, .inr ?_⟩
      simp only [dims]
      rcases ih.2 with rfl | h
      · simp only [dims]; omega
      · omega
    · rintro ⟨⟨⟨b1, b2, b3, b4, b5⟩, h2, h3⟩, h4⟩
      have hd : s + (c.Dim + dims r) ≤ 8 := by
        rcases h4 with h4 | h4
        · simp at h4
        · simp only [dims] at h4; exact h4
      have hp := ascT_len r _ h3
      simp only [ascR]
      exact ⟨h2, b2, b5, b3, by omega, (ascT_same r c.Exp (s + c.Dim) (by omega) (by omega)).2 ⟨h3, .inr (by omega)⟩⟩

theorem listed_val (k : Nat) (hk : 20 ≤ k) (p : Int) (L : List ua0) : F45 k p L = some (decide (p = 2 ∧ ordR L)) := by
  unfold F45 F45.b
  by_cases hp : p = 2
  case neg => rw [if_neg hp, decide_eq_false (p := p = 2 ∧ ordR L) (fun h => hp h.1)]
  rw [if_pos hp]
  by_cases l1 : (L.length : Int) < 1
  · rw [if_pos l1, decide_eq_false (p := p = 2 ∧ ordR L) (fun h => by have := (uj2 h.2).1; omega)]
  rw [if_neg l1]
  by_cases l8 : (L.length : Int) > 8
  · rw [if_pos l8, decide_eq_false (p := p = 2 ∧ ordR L) (fun h => by have := (uj2 h.2).2.1; omega)]
  rw [if_neg l8]
  have key := listed_loop k p L (by omega) L k 0 0 (by omega) rfl (by omega) (by omega) (by omega) (-1) (by omega) (fun _ => rfl) (fun m q h => absurd h (by omega))
  have e0 : ((0 : Nat) : Int) = 0 := rfl
  rw [e0] at key
  rw [key]
  have hsame := ascT_same L (-1) 0 (by omega) (by omega)
  by_cases ha : ascT (-1) L
  case neg => rw [if_neg ha, decide_eq_false (p := p = 2 ∧ ordR L) (fun h => ha (hsame.1 h.2.1).1)]; rfl
  rw [if_pos ha]
  show F45.c0 k (0 + dims L) = _
  unfold F45.c0
  have hl := ascT_len L _ ha
  by_cases hd : dims L ≤ 8
  · rw [decide_eq_true (show 0 + dims L ≤ 8 by omega), decide_eq_true (p := p = 2 ∧ ordR L) ⟨hp, hsame.2 ⟨ha, .inr (by omega)⟩, by omega⟩]
  · rw [decide_eq_false (show ¬ 0 + dims L ≤ 8 by omega), decide_eq_false (p := p = 2 ∧ ordR L) (fun h => hd (uj2 h.2).2.2)]

open F33 in
theorem validT_loop (k : Nat) (p : Int) (L : List ua0) (hL : L.length ≤ 1000) : ∀ (r : List ua0) (j n : Nat), r.length < j → L.drop n = r → n ≤ L.length →
    l0 k j p L L (L.length : Int) (n : Int) = if (∀ c ∈ r, legalS c) then some (.x0 p L) else some (.ret false) := by
  intro r
  induction r with
  | nil =>
    intro j n hj hr hn
    obtain ⟨j, rfl⟩ : ∃ i, j = i + 1 := ⟨j - 1, by simp at hj; omega⟩
    have := uh1 hr hn
    show l0_b k (l0 k j) _ _ _ _ _ = _
    unfold l0_b; rw [if_neg (by omega), if_pos (fun c hc => absurd hc (by simp))]
  | cons c r ih =>
    intro j n hj hr hn
    obtain ⟨j, rfl⟩ : ∃ i, j = i + 1 := ⟨j - 1, by simp at hj; omega⟩
    obtain ⟨g1, g2, g3, g4⟩ := ue8 hr
    simp only [List.length_cons] at hj
    show l0_b k (l0 k j) _ _ _ _ _ = _
    unfold l0_b
    rw [if_pos (by omega), g2, Option.bind_some, legalP_val, Option.bind_some]
    by_cases hc : legalS c
    · rw [if_pos (by simpa using hc), uc8 (by omega), ih j (n + 1) (by omega) g3 (by omega)]
      have hiff : (∀ x ∈ c :: r, legalS x) ↔ (∀ x ∈ r, legalS x) := by
        constructor
        · intro h x hx; exact h x (by simp [hx])
        · intro h x hx
          rcases List.mem_cons.1 hx with rfl | hx
          · exact hc
          · exact h x hx
      simp only [hiff]
    · rw [if_neg (by simpa using hc), if_neg (fun h => hc (h c (by simp)))]

theorem validT_val (k : Nat) (hk : 20 ≤ k) (p : Int) (L : List ua0) (hL : L.length ≤ 1000) (hkL : L.length < k) : F33 k p L = some (decide (p = 2 ∧ raw2 L)) := by
  unfold F33 F33.b
  have key := validT_loop k p L hL L k 0 hkL rfl (by omega)
  have e0 : ((0 : Nat) : Int) = 0 := rfl
  rw [e0] at key
  rw [key]
  by_cases hl : ∀ c ∈ L, legalS c
  case neg => rw [if_neg hl, decide_eq_false (p := p = 2 ∧ raw2 L) (fun h => hl h.2.2)]; rfl
  rw [if_pos hl]
  show F33.c0 k p L = _
  unfold F33.c0
  rw [listed_val k hk, Option.bind_some]
  by_cases ho : p = 2 ∧ ordR L
  · rw [decide_eq_true ho, decide_eq_true (p := p = 2 ∧ raw2 L) ⟨ho.1, ho.2, hl⟩]
  · rw [decide_eq_false ho, decide_eq_false (p := p = 2 ∧ raw2 L) (fun h => ho ⟨h.1, h.2.1⟩)]

end Go.Cn
