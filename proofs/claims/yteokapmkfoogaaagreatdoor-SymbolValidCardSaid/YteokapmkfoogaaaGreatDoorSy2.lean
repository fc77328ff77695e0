/- Symbols for odd primes: what the document asks. -/
import Derived.Test.YteokapmkfoogaaaGreatDoorSy1
set_option linter.unusedVariables false
noncomputable section
open Classical
namespace Go.Cn

open Fquadformref26_Valid in
theorem bare_loop (k : Nat) (L : List Constituent) (hL : L.length ≤ 1000) : ∀ (r : List Constituent) (j n : Nat), r.length < j → L.drop n = r → n ≤ L.length →
    Fquadformref26_Valid.l0 k j L (L.length : Int) (n : Int) = if (∀ c ∈ r, bare c) then some .x0 else some (.ret false) := by
  intro r
  induction r with
  | nil =>
    intro j n hj hr hn
    obtain ⟨j, rfl⟩ : ∃ i, j = i + 1 := ⟨j - 1, by simp at hj; omega⟩
    have hn' := drop_nilS hr hn
    show l0_b k (l0 k j) _ _ _ = _
    unfold l0_b
    rw [if_neg (by omega), if_pos (fun c hc => absurd hc (by simp))]
  | cons c r ih =>
    intro j n hj hr hn
    obtain ⟨j, rfl⟩ : ∃ i, j = i + 1 := ⟨j - 1, by simp at hj; omega⟩
    obtain ⟨g1, g2, g3, g4⟩ := drop_eltS hr
    simp only [List.length_cons] at hj
    have hw2 : IntKind.wrap .i64 ((n : Int) + 1) = ((n + 1 : Nat) : Int) := by rw [wrap_id (by omega) (by omega)]; omega
    show l0_b k (l0 k j) _ _ _ = _
    unfold l0_b
    rw [if_pos (by omega), g2, Option.bind_some]
    by_cases o1 : c.Odd = true
    · rw [if_pos o1, if_neg (fun h => by have := (h c (by simp)).1; rw [o1] at this; exact absurd this (by decide))]
    rw [if_neg o1]
    by_cases o2 : c.Oddity = 0
    case neg => rw [if_neg o2, if_neg (fun h => o2 (h c (by simp)).2)]
    rw [if_pos o2, hw2, ih j (n + 1) (by omega) g3 (by omega)]
    have hiff : (∀ x ∈ c :: r, bare x) ↔ (∀ x ∈ r, bare x) := by
      constructor
      · intro h x hx; exact h x (by simp [hx])
      · intro h x hx
        rcases List.mem_cons.1 hx with rfl | hx
        · exact ⟨by simpa using o1, o2⟩
        · exact h x hx
    simp only [hiff]

theorem asc_same : ∀ (r : List Constituent) (e s : Int), 0 ≤ s → ((ascR e s r ∧ ∀ c ∈ r, bare c) ↔ (ascP e r ∧ (r = [] ∨ s + dims r ≤ 8)))
  | [], e, s, h => by simp [ascR, ascP]
  | c :: r, e, s, h => by
    have hpos : ∀ (r : List Constituent) (e : Int), ascP e r → 0 ≤ dims r := by
      intro r
      induction r with
      | nil => intro e h; simp [dims]
      | cons c r ih => intro e h; simp only [ascP] at h; have := ih _ h.2.2.2.2.2.2; simp only [dims]; omega
    constructor
    · rintro ⟨h1, h2⟩
      simp only [ascR] at h1
      obtain ⟨a1, a2, a3, a4, a5, a6⟩ := h1
      have ih := (asc_same r c.Exp (s + c.Dim) (by omega)).1 ⟨a6, fun x hx => h2 x (by simp [hx])⟩
      refine ⟨?_, .inr ?_⟩
      · simp only [ascP]; exact ⟨a1, a2, a4, by omega, a3, h2 c (by simp), ih.1⟩
      · simp only [dims]
        rcases ih.2 with rfl | h
        · simp only [dims]; omega
        · omega
    · rintro ⟨h1, h2⟩
      simp only [ascP] at h1
      obtain ⟨a1, a2, a3, a4, a5, a6, a7⟩ := h1
      have hd : s + (c.Dim + dims r) ≤ 8 := by
        rcases h2 with h2 | h2
        · simp at h2
        · simp only [dims] at h2; exact h2
      have hp := hpos r c.Exp a7
      have ih := (asc_same r c.Exp (s + c.Dim) (by omega)).2 ⟨a7, .inr (by omega)⟩
      refine ⟨?_, fun x hx => ?_⟩
      · simp only [ascR]; exact ⟨a1, a2, a5, a3, by omega, ih.1⟩
      · rcases List.mem_cons.1 hx with rfl | hx
        · exact a6
        · exact ih.2 x hx

theorem dims_len : ∀ (r : List Constituent) (e : Int), ascP e r → (r.length : Int) ≤ dims r
  | [], _, _ => by simp [dims]
  | c :: r, e, h => by
    simp only [ascP] at h
    have := dims_len r _ h.2.2.2.2.2.2
    simp only [dims, List.length_cons]
    omega

theorem validR_val (k : Nat) (p : Int) (L : List Constituent) (hL : L.length ≤ 1000) (hk : L.length + 150 ≤ k) : Fquadformref26_Valid k p L = some (decide (symP p L)) := by
  unfold Fquadformref26_Valid Fquadformref26_Valid.b
  rw [oddR_val k (by omega), Option.bind_some]
  by_cases hp : oddPrime p
  case neg => rw [if_neg (by simpa using hp), decide_eq_false (p := symP p L) (fun h => hp h.1)]
  rw [if_pos (by simpa using hp)]
  unfold Fquadformref26_order Fquadformref26_order.b
  have key := order_loop k L hL L k 0 0 (by omega) rfl (by omega) (by omega) (by omega) (-1) (by omega) (fun _ => rfl) (fun m q h => absurd h (by omega))
  have key2 := bare_loop k L hL L k 0 (by omega) rfl (by omega)
  have e0 : ((0 : Nat) : Int) = 0 := rfl
  rw [e0] at key key2
  rw [key]
  have hsame := asc_same L (-1) 0 (by omega)
  by_cases ha : ascR (-1) 0 L
  case neg =>
    rw [if_neg ha, decide_eq_false (p := symP p L) (fun h => ha (hsame.2 ⟨h.2.2.2.1, .inr (by have := h.2.2.2.2; omega)⟩).1)]
    rfl
  rw [if_pos ha]
  show (Fquadformref26_order.c0 k (0 + dims L)).bind _ = _
  unfold Fquadformref26_order.c0
  rw [Int.zero_add, Option.bind_some]
  by_cases hd : dims L > 0
  case neg =>
    rw [decide_eq_false hd, if_neg (by simp), decide_eq_false (p := symP p L) (fun h => by have := dims_len L _ h.2.2.2.1; have := h.2.1; omega)]
  rw [decide_eq_true hd, if_pos rfl, key2]
  by_cases hb : ∀ c ∈ L, bare c
  · rw [if_pos hb]
    have hs := hsame.1 ⟨ha, hb⟩
    have hne : L ≠ [] := by rintro rfl; simp [dims] at hd
    have h8 : dims L ≤ 8 := by
      rcases hs.2 with h | h
      · exact absurd h hne
      · omega
    have hl := dims_len L _ hs.1
    have h1 : 1 ≤ L.length := List.length_pos_iff.2 hne
    rw [decide_eq_true (p := symP p L) ⟨hp, h1, by omega, hs.1, h8⟩]
    rfl
  · rw [if_neg hb, decide_eq_false (p := symP p L) (fun h => hb (hsame.2 ⟨h.2.2.2.1, .inr (by have := h.2.2.2.2; omega)⟩).2)]
    rfl



theorem small_prime {q : Int} (h : q = 3 ∨ q = 5 ∨ q = 7 ∨ q = 11 ∨ q = 13 ∨ q = 17 ∨ q = 19 ∨ q = 23) : oddPrime q := by
  have small : ∀ q : Int, 2 < q → q ≤ 23 → (∀ e : Int, (e = 2 ∨ e = 3 ∨ e = 4) → e * e ≤ q → ¬ q % e = 0) → oddPrime q := by
    intro q q1 q2 h
    refine ⟨q1, by omega, ?_⟩
    rintro ⟨e, h1, h2, h3⟩
    have he : e ≤ 4 := by
      rcases Int.lt_or_le 4 e with hh | hh
      · have := sq_le (d := 5) (m := e) (by decide) (by omega)
        omega
      · exact hh
    exact h e (by omega) h2 h3
  rcases h with rfl | rfl | rfl | rfl | rfl | rfl | rfl | rfl
  all_goals exact small _ (by decide) (by decide) (by rintro e (rfl | rfl | rfl) <;> decide)

theorem made_sym {q : Int} {o : List Constituent} (hq : q = 3 ∨ q = 5 ∨ q = 7 ∨ q = 11 ∨ q = 13 ∨ q = 17 ∨ q = 19 ∨ q = 23) (ho : ordR o) (hb : ∀ c ∈ o, bare c) : symP q o := by
  have h8 := ordR_len ho
  exact ⟨small_prime hq, h8.1, h8.2.1, ((asc_same o (-1) 0 (by omega)).1 ⟨ho.1, hb⟩).1, h8.2.2⟩

/-- The plain law. -/
theorem lawValid (p0_Prime : Int) (p0_List : List Constituent) (p1_Prime : Int) (p1_Parts : List A5u8) (p2 p3 p4 : Int) (h1 : okI .u8 p1_Prime) (h1' : okL ok_A5u8 p1_Parts) (h2 : okI .u8 p2) :
    Fquadformlaw26_SymbolValid 2000 p0_Prime p0_List p1_Prime p1_Parts p2 p3 p4 = some true := by
  unfold Fquadformlaw26_SymbolValid Fquadformlaw26_SymbolValid.b Fquadformlaw26_long Fquadformlaw26_long.b
  rw [Option.bind_some]
  by_cases l1 : (p0_List.length : Int) > 20
  · rw [if_pos (by simpa using l1)]; rfl
  rw [if_neg (by simpa using l1)]
  by_cases l2 : (p1_Parts.length : Int) > 20
  · rw [if_pos l2]; rfl
  rw [if_neg l2]
  obtain ⟨q, o, ho, hl⟩ := any_some 2000 (by decide) p1_Prime p1_Parts h1 (by omega) h1'.2
  rw [ho, Option.bind_some]
  dsimp only
  obtain ⟨q', o', ho', hl'⟩ := bent_some 2000 q o p2 p3 p4 (by omega) h2
  obtain ⟨q3, o3, e3, c3, d3, b3, _⟩ := local_valA 2000 8 (by decide) (by decide) p1_Prime p1_Parts h1 (by omega) h1'.2 (by omega)
  rw [ho', Option.bind_some]
  dsimp only
  rw [validP_val 2000 (by decide), Option.bind_some, validR_val 2000 _ _ (by omega) (by omega), Option.bind_some, if_pos rfl, validP_val 2000 (by decide), Option.bind_some, validR_val 2000 _ _ (by omega) (by omega), Option.bind_some, if_pos rfl, e3, Option.bind_some]
  dsimp only
  rw [validP_val 2000 (by decide), Option.bind_some, if_pos (by simpa using made_sym c3 d3 b3)]
  rfl

end Go.Cn
