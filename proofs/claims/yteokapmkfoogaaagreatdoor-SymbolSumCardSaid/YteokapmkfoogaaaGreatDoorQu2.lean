/- The plain law of SymbolExcess: the reference. -/
import Derived.Test.YteokapmkfoogaaaGreatDoorQu1
set_option linter.unusedVariables false
noncomputable section
open Classical
namespace Go.Cn

open Fquadformref26_order in
theorem order_loop (k : Nat) (L : List Constituent) (hL : L.length ≤ 1000) : ∀ (r : List Constituent) (j n : Nat) (s : Int), r.length < j → L.drop n = r → n ≤ L.length → 0 ≤ s → s ≤ 8 →
    ∀ e, -1 ≤ e → (n = 0 → e = -1) → (∀ m q, n = m + 1 → L[m]? = some q → e = q.Exp) →
    Fquadformref26_order.l0 k j L s L (L.length : Int) (n : Int) = if ascR e s r then some (.x0 (s + dims r)) else some (.ret false) := by
  intro r
  induction r with
  | nil =>
    intro j n s hj hr hn s0 s1 e he0 he he'
    obtain ⟨j, rfl⟩ : ∃ i, j = i + 1 := ⟨j - 1, by simp at hj; omega⟩
    have hn' := drop_nilS hr hn
    show l0_b k (l0 k j) _ _ _ _ _ = _
    unfold l0_b
    rw [if_neg (by omega), if_pos (by simp [ascR])]
    simp [dims]
  | cons c r ih =>
    intro j n s hj hr hn s0 s1 e he0 he he'
    obtain ⟨j, rfl⟩ : ∃ i, j = i + 1 := ⟨j - 1, by simp at hj; omega⟩
    obtain ⟨g1, g2, g3, g4⟩ := drop_eltS hr
    simp only [List.length_cons] at hj
    have hw2 : IntKind.wrap .i64 ((n : Int) + 1) = ((n + 1 : Nat) : Int) := by rw [wrap_id (by omega) (by omega)]; omega
    have hw8 : IntKind.wrap .i64 (8 - s) = 8 - s := wrap_id (by omega) (by omega)
    have tail : e < c.Exp → c.Exp ≤ 60 →
        (if c.Sign = (1 : Int) then (if c.Dim < (1 : Int) then (some (O0.ret (false))) else (if c.Dim > (IntKind.wrap .i64 ((8 : Int) - s)) then (some (.ret (false))) else ((l0 k j) L (IntKind.wrap .i64 (s + c.Dim)) L (L.length : Int) (IntKind.wrap .i64 ((n : Int) + (1 : Int)))))) else (if c.Sign = (-1 : Int) then (if c.Dim < (1 : Int) then (some (.ret (false))) else (if c.Dim > (IntKind.wrap .i64 ((8 : Int) - s)) then (some (.ret (false))) else ((l0 k j) L (IntKind.wrap .i64 (s + c.Dim)) L (L.length : Int) (IntKind.wrap .i64 ((n : Int) + (1 : Int)))))) else (some (.ret (false))))) =
        if ascR e s (c :: r) then some (.x0 (s + dims (c :: r))) else some (.ret false) := by
      intro x1 x2
      rw [hw8]
      have fin : signed c → (if c.Dim < (1 : Int) then (some (O0.ret (false))) else (if c.Dim > (8 : Int) - s then (some (.ret (false))) else ((l0 k j) L (IntKind.wrap .i64 (s + c.Dim)) L (L.length : Int) (IntKind.wrap .i64 ((n : Int) + (1 : Int)))))) = if ascR e s (c :: r) then some (.x0 (s + dims (c :: r))) else some (.ret false) := by
        intro hs
        by_cases d1 : c.Dim < 1
        · rw [if_pos d1, if_neg (by simp only [ascR]; omega)]
        rw [if_neg d1]
        by_cases d2 : c.Dim > 8 - s
        · rw [if_pos d2, if_neg (by simp only [ascR]; omega)]
        rw [if_neg d2]
        have hw3 : IntKind.wrap .i64 (s + c.Dim) = s + c.Dim := wrap_id (by omega) (by omega)
        have key := ih j (n + 1) (s + c.Dim) (by omega) g3 (by omega) (by omega) (by omega) c.Exp (by omega) (fun h => absurd h (by omega)) (fun m q hm hq => by
          have : m = n := by omega
          subst this
          rw [g4] at hq
          cases hq; rfl)
        rw [hw2, hw3, key]
        have hiff : ascR e s (c :: r) ↔ ascR c.Exp (s + c.Dim) r := by
          constructor
          · intro h; simp only [ascR] at h; exact h.2.2.2.2.2
          · intro h; simp only [ascR]; exact ⟨x1, x2, hs, by omega, by omega, h⟩
        simp only [hiff, dims, Int.add_assoc]
      by_cases s1' : c.Sign = 1
      · rw [if_pos s1']; exact fin (.inl s1')
      rw [if_neg s1']
      by_cases s2' : c.Sign = -1
      · rw [if_pos s2']; exact fin (.inr s2')
      rw [if_neg s2', if_neg (by simp only [ascR, signed]; rintro ⟨-, -, h, -⟩; rcases h with h | h <;> contradiction)]
    show l0_b k (l0 k j) _ _ _ _ _ = _
    unfold l0_b
    rw [if_pos (by omega), g2, Option.bind_some]
    by_cases e1 : c.Exp < 0
    · rw [if_pos e1, if_neg (by simp only [ascR]; omega)]
    rw [if_neg e1]
    by_cases e2 : c.Exp > 60
    · rw [if_pos e2, if_neg (by simp only [ascR]; omega)]
    rw [if_neg e2]
    cases n with
    | zero =>
      rw [if_neg (by simp)]
      have := he rfl
      exact tail (by omega) (by omega)
    | succ n =>
      rw [if_pos (by omega)]
      have hw1 : IntKind.wrap .i64 (((n + 1 : Nat) : Int) - 1) = (n : Int) := by rw [wrap_id (by omega) (by omega)]; omega
      have hq : L[n]? = some L[n] := List.getElem?_eq_getElem (by omega)
      rw [hw1, elt_nat, hq, Option.bind_some]
      have hqe := he' n _ rfl hq
      by_cases hlt : c.Exp ≤ L[n].Exp
      · rw [if_pos hlt, if_neg (by simp only [ascR]; omega)]
      rw [if_neg hlt]
      exact tail (by omega) (by omega)

open Fquadformref26_Valid in
theorem bare_loop (k : Nat) (L : List Constituent) (hL : L.length ≤ 1000) : ∀ (r : List Constituent) (j n : Nat), r.length < j → L.drop n = r → n ≤ L.length →
    Fquadformref26_Valid.l0 k j L (L.length : Int) (n : Int) = if (∀ c ∈ r, bare c) then some .x0 else some (.ret false) := by
  intro r
  induction r with
  | nil =>
    intro j n hj hr hn
    obtain ⟨j, rfl⟩ : ∃ i, j = i + 1 := ⟨j - 1, by simp at hj; omega⟩
    have hn' := drop_nilS hr hn
    show l0_b k (l0 k j) _ _ _ = _
    unfold l0_b
    rw [if_neg (by omega), if_pos (fun c hc => absurd hc (by simp))]
  | cons c r ih =>
    intro j n hj hr hn
    obtain ⟨j, rfl⟩ : ∃ i, j = i + 1 := ⟨j - 1, by simp at hj; omega⟩
    obtain ⟨g1, g2, g3, g4⟩ := drop_eltS hr
    simp only [List.length_cons] at hj
    have hw2 : IntKind.wrap .i64 ((n : Int) + 1) = ((n + 1 : Nat) : Int) := by rw [wrap_id (by omega) (by omega)]; omega
    show l0_b k (l0 k j) _ _ _ = _
    unfold l0_b
    rw [if_pos (by omega), g2, Option.bind_some]
    by_cases o1 : c.Odd = true
    · rw [if_pos o1, if_neg (fun h => by have := (h c (by simp)).1; rw [o1] at this; exact absurd this (by decide))]
    rw [if_neg o1]
    by_cases o2 : c.Oddity = 0
    case neg => rw [if_neg o2, if_neg (fun h => o2 (h c (by simp)).2)]
    rw [if_pos o2, hw2, ih j (n + 1) (by omega) g3 (by omega)]
    have hiff : (∀ x ∈ c :: r, bare x) ↔ (∀ x ∈ r, bare x) := by
      constructor
      · intro h x hx; exact h x (by simp [hx])
      · intro h x hx
        rcases List.mem_cons.1 hx with rfl | hx
        · exact ⟨by simpa using o1, o2⟩
        · exact h x hx
    simp only [hiff]

theorem asc_same : ∀ (r : List Constituent) (e s : Int), 0 ≤ s → ((ascR e s r ∧ ∀ c ∈ r, bare c) ↔ (ascP e r ∧ (r = [] ∨ s + dims r ≤ 8)))
  | [], e, s, h => by simp [ascR, ascP]
  | c :: r, e, s, h => by
    have hpos : ∀ (r : List Constituent) (e : Int), ascP e r → 0 ≤ dims r := by
      intro r
      induction r with
      | nil => intro e h; simp [dims]
      | cons c r ih => intro e h; simp only [ascP] at h; have := ih _ h.2.2.2.2.2.2; simp only [dims]; omega
    constructor
    · rintro ⟨h1, h2⟩
      simp only [ascR] at h1
      obtain ⟨a1, a2, a3, a4, a5, a6⟩ := h1
      have ih := (asc_same r c.Exp (s + c.Dim) (by omega)).1 ⟨a6, fun x hx => h2 x (by simp [hx])⟩
      refine ⟨?_, .inr ?_⟩
      · simp only [ascP]; exact ⟨a1, a2, a4, by omega, a3, h2 c (by simp), ih.1⟩
      · simp only [dims]
        rcases ih.2 with rfl | h
        · simp only [dims]; omega
        · omega
    · rintro ⟨h1, h2⟩
      simp only [ascP] at h1
      obtain ⟨a1, a2, a3, a4, a5, a6, a7⟩ := h1
      have hd : s + (c.Dim + dims r) ≤ 8 := by
        rcases h2 with h2 | h2
        · simp at h2
        · simp only [dims] at h2; exact h2
      have hp := hpos r c.Exp a7
      have ih := (asc_same r c.Exp (s + c.Dim) (by omega)).2 ⟨a7, .inr (by omega)⟩
      refine ⟨?_, fun x hx => ?_⟩
      · simp only [ascR]; exact ⟨a1, a2, a5, a3, by omega, ih.1⟩
      · rcases List.mem_cons.1 hx with rfl | hx
        · exact a6
        · exact ih.2 x hx

theorem dims_len : ∀ (r : List Constituent) (e : Int), ascP e r → (r.length : Int) ≤ dims r
  | [], _, _ => by simp [dims]
  | c :: r, e, h => by
    simp only [ascP] at h
    have := dims_len r _ h.2.2.2.2.2.2
    simp only [dims, List.length_cons]
    omega

theorem validR_val (k : Nat) (p : Int) (L : List Constituent) (hL : L.length ≤ 1000) (hk : L.length + 150 ≤ k) : Fquadformref26_Valid k p L = some (decide (symP p L)) := by
  unfold Fquadformref26_Valid Fquadformref26_Valid.b
  rw [oddR_val k (by omega), Option.bind_some]
  by_cases hp : oddPrime p
  case neg => rw [if_neg (by simpa using hp), decide_eq_false (p := symP p L) (fun h => hp h.1)]
  rw [if_pos (by simpa using hp)]
  unfold Fquadformref26_order Fquadformref26_order.b
  have key := order_loop k L hL L k 0 0 (by omega) rfl (by omega) (by omega) (by omega) (-1) (by omega) (fun _ => rfl) (fun m q h => absurd h (by omega))
  have key2 := bare_loop k L hL L k 0 (by omega) rfl (by omega)
  have e0 : ((0 : Nat) : Int) = 0 := rfl
  rw [e0] at key key2
  rw [key]
  have hsame := asc_same L (-1) 0 (by omega)
  by_cases ha : ascR (-1) 0 L
  case neg =>
    rw [if_neg ha, decide_eq_false (p := symP p L) (fun h => ha (hsame.2 ⟨h.2.2.2.1, .inr (by have := h.2.2.2.2; omega)⟩).1)]
    rfl
  rw [if_pos ha]
  show (Fquadformref26_order.c0 k (0 + dims L)).bind _ = _
  unfold Fquadformref26_order.c0
  rw [Int.zero_add, Option.bind_some]
  by_cases hd : dims L > 0
  case neg =>
    rw [decide_eq_false hd, if_neg (by simp), decide_eq_false (p := symP p L) (fun h => by have := dims_len L _ h.2.2.2.1; have := h.2.1; omega)]
  rw [decide_eq_true hd, if_pos rfl, key2]
  by_cases hb : ∀ c ∈ L, bare c
  · rw [if_pos hb]
    have hs := hsame.1 ⟨ha, hb⟩
    have hne : L ≠ [] := by rintro rfl; simp [dims] at hd
    have h8 : dims L ≤ 8 := by
      rcases hs.2 with h | h
      · exact absurd h hne
      · omega
    have hl := dims_len L _ hs.1
    have h1 : 1 ≤ L.length := List.length_pos_iff.2 hne
    rw [decide_eq_true (p := symP p L) ⟨hp, h1, by omega, hs.1, h8⟩]
    rfl
  · rw [if_neg hb, decide_eq_false (p := symP p L) (fun h => hb (hsame.2 ⟨h.2.2.2.1, .inr (by have := h.2.2.2.2; omega)⟩).2)]
    rfl

end Go.Cn
