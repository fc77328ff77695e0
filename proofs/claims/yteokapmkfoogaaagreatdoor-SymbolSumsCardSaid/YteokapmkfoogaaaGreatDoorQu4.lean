/- The sum of two symbols: what the program and the document compute. -/
import Derived.Test.YteokapmkfoogaaaGreatDoorQu3
set_option linter.unusedVariables false
noncomputable section
open Classical
namespace Go.Cn

def okC (c : Constituent) : Prop := 0 ≤ c.Exp ∧ c.Exp ≤ 60 ∧ 1 ≤ c.Dim ∧ c.Dim ≤ 8 ∧ signed c ∧ bare c
theorem asc_okC : ∀ {M : List Constituent} {y : Int}, -1 ≤ y → ascP y M → ∀ c ∈ M, okC c
  | [], _, _, _, c, hc => by simp at hc
  | d :: M, y, hy, h, c, hc => by
    simp only [ascP] at h
    rcases List.mem_cons.1 hc with rfl | hc
    · exact ⟨by omega, h.2.1, h.2.2.1, h.2.2.2.1, h.2.2.2.2.1, h.2.2.2.2.2.1⟩
    · exact asc_okC (by omega) h.2.2.2.2.2.2 c hc

def jn (x y : Constituent) : Constituent := ⟨x.Exp, x.Dim + y.Dim, x.Sign * y.Sign, false, 0⟩

def addS : List Constituent → List Constituent → List Constituent
  | [], b => b
  | x :: a, [] => x :: a
  | x :: a, y :: b => if x.Exp < y.Exp then x :: addS a (y :: b) else if y.Exp < x.Exp then y :: addS (x :: a) b else jn x y :: addS a b
termination_by a b => a.length + b.length
decreasing_by all_goals (simp only [List.length_cons]; omega)

theorem addS_nil (b : List Constituent) : addS [] b = b := by rw [addS]
theorem addS_nil' (a : List Constituent) : addS a [] = a := by cases a <;> rw [addS]
theorem addS_lt {x y : Constituent} {a b : List Constituent} (h : x.Exp < y.Exp) : addS (x :: a) (y :: b) = x :: addS a (y :: b) := by rw [addS, if_pos h]
theorem addS_gt {x y : Constituent} {a b : List Constituent} (h : y.Exp < x.Exp) : addS (x :: a) (y :: b) = y :: addS (x :: a) b := by rw [addS, if_neg (by omega), if_pos h]
theorem addS_eq {x y : Constituent} {a b : List Constituent} (h : x.Exp = y.Exp) : addS (x :: a) (y :: b) = jn x y :: addS a b := by rw [addS, if_neg (by omega), if_neg (by omega)]

theorem addS_len : ∀ (N : Nat) (a b : List Constituent), a.length + b.length ≤ N → (addS a b).length ≤ a.length + b.length := by
  intro N
  induction N with
  | zero => intro a b h; have ha : a = [] := List.length_eq_zero_iff.1 (by omega); subst ha; rw [addS_nil]; omega
  | succ N ih =>
    intro a b h
    cases a with
    | nil => rw [addS_nil]; omega
    | cons x a =>
      cases b with
      | nil => rw [addS_nil']; omega
      | cons y b =>
        simp only [List.length_cons] at h
        rcases Int.lt_trichotomy x.Exp y.Exp with h1 | h1 | h1
        · rw [addS_lt h1]; have := ih a (y :: b) (by simp only [List.length_cons]; omega); simp only [List.length_cons] at this ⊢; omega
        · rw [addS_eq h1]; have := ih a b (by omega); simp only [List.length_cons] at this ⊢; omega
        · rw [addS_gt h1]; have := ih (x :: a) b (by simp only [List.length_cons]; omega); simp only [List.length_cons] at this ⊢; omega

/-! ### the program's merge -/
theorem cmp_val (k : Nat) {x y : Constituent} (hx : okC x) (hy : okC y) : Fsymbol_Sum_1 k x.Exp x.Dim x.Sign x.Odd x.Oddity y.Exp y.Dim y.Sign y.Odd y.Oddity = some (x.Exp - y.Exp) := by
  have h1 := hx.1; have h2 := hx.2.1; have h3 := hy.1; have h4 := hy.2.1
  show some (IntKind.wrap .i64 (x.Exp - y.Exp)) = _
  rw [wrap_id (by omega) (by omega)]

theorem sgn_mul {x y : Constituent} (hx : signed x) (hy : signed y) : IntKind.wrap .i64 (x.Sign * y.Sign) = x.Sign * y.Sign := by
  rcases hx with h | h <;> rcases hy with h' | h' <;> rw [h, h'] <;> decide

theorem jnP_val (k : Nat) {x y : Constituent} (hx : okC x) (hy : okC y) : Fsymbol_Sum_2 k x.Exp x.Dim x.Sign x.Odd x.Oddity y.Exp y.Dim y.Sign y.Odd y.Oddity = some (x.Exp, x.Dim + y.Dim, x.Sign * y.Sign, false, 0) := by
  obtain ⟨_, _, a1, a2, a3, _⟩ := hx
  obtain ⟨_, _, b1, b2, b3, _⟩ := hy
  show some (x.Exp, IntKind.wrap .i64 (x.Dim + y.Dim), IntKind.wrap .i64 (x.Sign * y.Sign), false, 0) = _
  rw [wrap_id (by omega) (by omega), sgn_mul a3 b3]

theorem jnR_val (k : Nat) {x y : Constituent} (hx : okC x) (hy : okC y) : Fquadformref26_join k x.Exp x.Dim x.Sign x.Odd x.Oddity y.Exp y.Dim y.Sign y.Odd y.Oddity = some (x.Exp, x.Dim + y.Dim, x.Sign * y.Sign, false, 0) := by
  obtain ⟨_, _, a1, a2, a3, a4⟩ := hx
  obtain ⟨_, _, b1, b2, b3, b4⟩ := hy
  unfold Fquadformref26_join Fquadformref26_join.b
  rw [if_neg (by rw [a4.1]; decide), wrap_id (by omega) (by omega), sgn_mul a3 b3, b4.1, a4.2, b4.2]
  rfl

open Fsymbol_merge_i0 in
theorem mg_loop (k : Nat) : ∀ (N j : Nat) (out a b : List Constituent), a.length + b.length ≤ N → N < j → (∀ c ∈ a, okC c) → (∀ c ∈ b, okC c) → out.length + N ≤ 1000 →
    ∃ o a' b', Fsymbol_merge_i0.l0b k j out a b = some (.x1 o a' b') ∧ o ++ a' ++ b' = out ++ addS a b ∧ o.length + a'.length + b'.length ≤ 1000 := by
  intro N
  induction N with
  | zero =>
    intro j out a b hN hj ha hb ho
    obtain ⟨j, rfl⟩ : ∃ i, j = i + 1 := ⟨j - 1, by omega⟩
    have ea : a = [] := List.length_eq_zero_iff.1 (by omega)
    have eb : b = [] := List.length_eq_zero_iff.1 (by omega)
    subst ea; subst eb
    refine ⟨out, [], [], ?_, by simp [addS_nil], by simp; omega⟩
    show l0b_b k (l0 k j) (l0b k j) _ _ _ = _
    unfold l0b_b
    rw [if_neg (by simp)]
  | succ N ih =>
    intro j out a b hN hj ha hb ho
    obtain ⟨j, rfl⟩ : ∃ i, j = i + 1 := ⟨j - 1, by omega⟩
    show ∃ o a' b', l0b_b k (l0 k j) (l0b k j) _ _ _ = _ ∧ _
    unfold l0b_b
    cases a with
    | nil => exact ⟨out, [], b, by rw [if_neg (by simp)], by simp [addS_nil], by simp at hN ⊢; omega⟩
    | cons x a =>
      rw [if_pos (by simp only [List.length_cons]; omega)]
      cases b with
      | nil => exact ⟨out, x :: a, [], by rw [if_neg (by simp)], by simp [addS_nil'], by simp at hN ⊢; omega⟩
      | cons y b =>
        have hx := ha x (by simp); have hy := hb y (by simp)
        simp only [List.length_cons] at hN
        have lx : (0 : Int) ≤ (1 : Int) ∧ (1 : Int) ≤ ((x :: a).length : Int) := by simp only [List.length_cons]; omega
        have ly : (0 : Int) ≤ (1 : Int) ∧ (1 : Int) ≤ ((y :: b).length : Int) := by simp only [List.length_cons]; omega
        have ho' : out.length < 1073741824 := by omega
        rw [if_pos (by simp only [List.length_cons]; omega), show elt (x :: a) 0 = some x from rfl, Option.bind_some, show elt (y :: b) 0 = some y from rfl, Option.bind_some, cmp_val k hx hy, Option.bind_some]
        rcases Int.lt_trichotomy x.Exp y.Exp with h1 | h1 | h1
        · rw [if_pos (by omega), if_pos ho', if_pos lx]
          obtain ⟨o, a', b', q1, q2, q3⟩ := ih j (out ++ [x]) a (y :: b) (by simp only [List.length_cons]; omega) (by omega) (fun c hc => ha c (by simp [hc])) hb (by simp; omega)
          exact ⟨o, a', b', q1, by rw [q2, addS_lt h1]; simp, q3⟩
        · rw [if_neg (by omega), if_neg (by omega), jnP_val k hx hy, Option.bind_some, if_pos ho', if_pos lx, if_pos ly]
          obtain ⟨o, a', b', q1, q2, q3⟩ := ih j (out ++ [jn x y]) a b (by omega) (by omega) (fun c hc => ha c (by simp [hc])) (fun c hc => hb c (by simp [hc])) (by simp; omega)
          exact ⟨o, a', b', q1, by rw [q2, addS_eq h1]; simp, q3⟩
        · rw [if_neg (by omega), if_pos (by omega), if_pos ho', if_pos ly]
          obtain ⟨o, a', b', q1, q2, q3⟩ := ih j (out ++ [y]) (x :: a) b (by simp only [List.length_cons]; omega) (by omega) ha (fun c hc => hb c (by simp [hc])) (by simp; omega)
          exact ⟨o, a', b', q1, by rw [q2, addS_gt h1]; simp, q3⟩

theorem nil_of_len {l : List Constituent} (h : l.length = 0) : l = [] := List.length_eq_zero_iff.1 h

theorem mg_c1 (k : Nat) (o a b : List Constituent) (h : o.length + a.length + b.length ≤ 1000) : Fsymbol_merge_i0.c1 k o a b = some (o ++ a ++ b) := by
  unfold Fsymbol_merge_i0.c1
  by_cases h1 : a.length = 0
  · rw [if_pos h1, nil_of_len h1]
    by_cases h2 : b.length = 0
    · rw [if_pos h2, nil_of_len h2]; simp
    · rw [if_neg h2, if_pos (by omega)]; simp
  · rw [if_neg h1, if_pos (by omega)]
    by_cases h2 : b.length = 0
    · rw [if_pos h2, nil_of_len h2]; simp
    · rw [if_neg h2, if_pos (by simp; omega)]

theorem mg_c0 (k : Nat) (a b : List Constituent) (h : a.length + b.length ≤ 1000) : Fsymbol_merge_i0.c0 k a b = some (a ++ b) := by
  unfold Fsymbol_merge_i0.c0
  by_cases h1 : a.length = 0
  · rw [if_pos h1, nil_of_len h1]
    by_cases h2 : b.length = 0
    · rw [if_pos h2, nil_of_len h2]; simp
    · rw [if_neg h2, if_pos (by omega)]; simp
  · rw [if_neg h1, if_pos (by omega)]
    by_cases h2 : b.length = 0
    · rw [if_pos h2, nil_of_len h2]; simp
    · rw [if_neg h2, if_pos (by omega)]

open Fsymbol_merge_i0 in
theorem mg_val (k : Nat) (a b : List Constituent) (ha : ∀ c ∈ a, okC c) (hb : ∀ c ∈ b, okC c) (hl : a.length + b.length ≤ 1000) (hk : a.length + b.length < k) : Fsymbol_merge_i0 k a b = some (addS a b) := by
  unfold Fsymbol_merge_i0 Fsymbol_merge_i0.b
  obtain ⟨j, rfl⟩ : ∃ i, k = i + 1 := ⟨k - 1, by omega⟩
  have e : Fsymbol_merge_i0.l0 (j + 1) (j + 1) a b = l0_b (j + 1) (l0 (j + 1) j) (l0b (j + 1) j) a b := rfl
  rw [e]
  unfold l0_b
  cases a with
  | nil => rw [if_neg (by simp)]; show Fsymbol_merge_i0.c0 (j + 1) [] b = _; rw [mg_c0 _ _ _ hl, addS_nil]; rfl
  | cons x a =>
    rw [if_pos (by simp only [List.length_cons]; omega)]
    cases b with
    | nil => rw [if_neg (by simp)]; show Fsymbol_merge_i0.c0 (j + 1) (x :: a) [] = _; rw [mg_c0 _ _ _ hl, addS_nil']; simp
    | cons y b =>
      have hx := ha x (by simp); have hy := hb y (by simp)
      simp only [List.length_cons] at hl hk
      have lx : (0 : Int) ≤ (1 : Int) ∧ (1 : Int) ≤ ((x :: a).length : Int) := by simp only [List.length_cons]; omega
      have ly : (0 : Int) ≤ (1 : Int) ∧ (1 : Int) ≤ ((y :: b).length : Int) := by simp only [List.length_cons]; omega
      rw [if_pos (by simp only [List.length_cons]; omega), show elt (x :: a) 0 = some x from rfl, Option.bind_some, show elt (y :: b) 0 = some y from rfl, Option.bind_some, cmp_val (j + 1) hx hy, Option.bind_some]
      rcases Int.lt_trichotomy x.Exp y.Exp with h1 | h1 | h1
      · rw [if_pos (by omega), if_pos lx]
        obtain ⟨o, a', b', q1, q2, q3⟩ := mg_loop (j + 1) (a.length + (b.length + 1)) j [x] a (y :: b) (by simp only [List.length_cons]; omega) (by omega) (fun c hc => ha c (by simp [hc])) hb (by simp; omega)
        have q1' : l0b (j + 1) j [x] (List.drop (Int.toNat 1) (x :: a)) (y :: b) = _ := q1
        rw [q1']
        show Fsymbol_merge_i0.c1 (j + 1) o a' b' = _
        rw [mg_c1 _ _ _ _ q3, q2, addS_lt h1]; rfl
      · rw [if_neg (by omega), if_neg (by omega), jnP_val (j + 1) hx hy, Option.bind_some, if_pos lx, if_pos ly]
        obtain ⟨o, a', b', q1, q2, q3⟩ := mg_loop (j + 1) (a.length + b.length) j [jn x y] a b (by omega) (by omega) (fun c hc => ha c (by simp [hc])) (fun c hc => hb c (by simp [hc])) (by simp; omega)
        have q1' : l0b (j + 1) j [Constituent.mk x.Exp (x.Dim + y.Dim) (x.Sign * y.Sign) false 0] (List.drop (Int.toNat 1) (x :: a)) (List.drop (Int.toNat 1) (y :: b)) = _ := q1
        rw [q1']
        show Fsymbol_merge_i0.c1 (j + 1) o a' b' = _
        rw [mg_c1 _ _ _ _ q3, q2, addS_eq h1]; rfl
      · rw [if_neg (by omega), if_pos (by omega), if_pos ly]
        obtain ⟨o, a', b', q1, q2, q3⟩ := mg_loop (j + 1) (a.length + 1 + b.length) j [y] (x :: a) b (by simp only [List.length_cons]; omega) (by omega) ha (fun c hc => hb c (by simp [hc])) (by simp; omega)
        have q1' : l0b (j + 1) j [y] (x :: a) (List.drop (Int.toNat 1) (y :: b)) = _ := q1
        rw [q1']
        show Fsymbol_merge_i0.c1 (j + 1) o a' b' = _
        rw [mg_c1 _ _ _ _ q3, q2, addS_gt h1]; rfl

/-- what Sum comes to -/
theorem sumP_val (k : Nat) (hk : 2000 ≤ k) (p q : Int) (a b : List Constituent) : Fsymbol_Sum k p a q b = some (if symP p a ∧ symP q b ∧ p = q ∧ symP p (addS a b) then (p, addS a b, 0) else (0, [], 22)) := by
  unfold Fsymbol_Sum Fsymbol_Sum.b
  rw [validP_val k (by omega), Option.bind_some]
  by_cases h1 : symP p a
  case neg => rw [if_neg (by simpa using h1), if_neg (fun h => h1 h.1)]
  rw [if_pos (by simpa using h1), validP_val k (by omega), Option.bind_some]
  by_cases h2 : symP q b
  case neg => rw [if_neg (by simpa using h2), if_neg (fun h => h2 h.2.1)]
  rw [if_pos (by simpa using h2)]
  by_cases h3 : p = q
  case neg => rw [if_neg h3, if_neg (fun h => h3 h.2.2.1)]
  have l1 := h1.2.2.1; have l2 := h2.2.2.1
  rw [if_pos h3, mg_val k a b (asc_okC (by omega) h1.2.2.2.1) (asc_okC (by omega) h2.2.2.2.1) (by omega) (by omega), Option.bind_some, validP_val k (by omega), Option.bind_some]
  by_cases h4 : symP p (addS a b)
  case neg => rw [if_neg (by simpa using h4), if_neg (fun h => h4 h.2.2.2)]
  rw [if_pos (by simpa using h4), if_pos ⟨h1, h2, h3, h4⟩]

end Go.Cn
