/- The law of the sum of raw symbols. -/
import Derived.Test.YtgbijhccgmmkgaaGreatDoorTf11m22
import Derived.Test.YtgbijhccgmmkgaaGreatDoorTa4
import Derived.Test.YtgbijhccgmmkgaaGreatDoorTb1
set_option linter.unusedVariables false
noncomputable section
open Classical
namespace Go.Cn

def jnT (x y : Constituent) : Constituent := ⟨x.Exp, IntKind.wrap .i64 (x.Dim + y.Dim), IntKind.wrap .i64 (x.Sign * y.Sign), if x.Odd = true then true else y.Odd, Int.tmod (IntKind.wrap .i64 (x.Oddity + y.Oddity)) 8⟩

def addT : List Constituent → List Constituent → List Constituent
  | [], b => b
  | x :: a, [] => x :: a
  | x :: a, y :: b => if x.Exp < y.Exp then x :: addT a (y :: b) else if y.Exp < x.Exp then y :: addT (x :: a) b else jnT x y :: addT a b
termination_by a b => a.length + b.length
decreasing_by all_goals (simp only [List.length_cons]; omega)

theorem addT_nil (b : List Constituent) : addT [] b = b := by rw [addT]
theorem addT_nil' (a : List Constituent) : addT a [] = a := by cases a <;> rw [addT]
theorem addT_lt {x y : Constituent} {a b : List Constituent} (h : x.Exp < y.Exp) : addT (x :: a) (y :: b) = x :: addT a (y :: b) := by rw [addT, if_pos h]
theorem addT_gt {x y : Constituent} {a b : List Constituent} (h : y.Exp < x.Exp) : addT (x :: a) (y :: b) = y :: addT (x :: a) b := by rw [addT, if_neg (by omega), if_pos h]
theorem addT_eq {x y : Constituent} {a b : List Constituent} (h : x.Exp = y.Exp) : addT (x :: a) (y :: b) = jnT x y :: addT a b := by rw [addT, if_neg (by omega), if_neg (by omega)]

theorem nil_of_len {l : List Constituent} (h : l.length = 0) : l = [] := List.length_eq_zero_iff.1 h
theorem addT_len : ∀ (N : Nat) (a b : List Constituent), a.length + b.length ≤ N → (addT a b).length ≤ a.length + b.length := by
  intro N
  induction N with
  | zero => intro a b h; rw [nil_of_len (l := a) (by omega), addT_nil]; omega
  | succ N ih =>
    intro a b h
    cases a with
    | nil => rw [addT_nil]; omega
    | cons x a =>
      cases b with
      | nil => rw [addT_nil']; omega
      | cons y b =>
        simp only [List.length_cons] at h
        rcases Int.lt_trichotomy x.Exp y.Exp with h1 | h1 | h1
        · rw [addT_lt h1]; have := ih a (y :: b) (by simp only [List.length_cons]; omega); simp only [List.length_cons] at this ⊢; omega
        · rw [addT_eq h1]; have := ih a b (by omega); simp only [List.length_cons] at this ⊢; omega
        · rw [addT_gt h1]; have := ih (x :: a) b (by simp only [List.length_cons]; omega); simp only [List.length_cons] at this ⊢; omega

theorem jnT_val (k : Nat) (x y : Constituent) : Fquadformref26_join k x.Exp x.Dim x.Sign x.Odd x.Oddity y.Exp y.Dim y.Sign y.Odd y.Oddity = some (x.Exp, IntKind.wrap .i64 (x.Dim + y.Dim), IntKind.wrap .i64 (x.Sign * y.Sign), (if x.Odd = true then true else y.Odd), Int.tmod (IntKind.wrap .i64 (x.Oddity + y.Oddity)) 8) := by
  unfold Fquadformref26_join Fquadformref26_join.b
  by_cases h : x.Odd = true
  · rw [if_pos h, if_pos h]
  · rw [if_neg h, if_neg h]

open Fquadformref26_Add in
theorem ad_loopT (k : Nat) (A B : List Constituent) (hl : A.length + B.length ≤ 1000) : ∀ (N j : Nat) (out ra rb : List Constituent) (i m : Nat), ra.length + rb.length ≤ N → N < j → A.drop i = ra → B.drop m = rb → i ≤ A.length → m ≤ B.length → out.length + N ≤ 1000 →
    Fquadformref26_Add.l0b k j out A B (i : Int) (m : Int) = some (.x1 (out ++ addT ra rb)) := by
  intro N
  induction N with
  | zero =>
    intro j out ra rb i m hN hj ea eb hi hm ho
    obtain ⟨j, rfl⟩ : ∃ i, j = i + 1 := ⟨j - 1, by omega⟩
    have e1 : ra = [] := nil_of_len (by omega)
    have e2 : rb = [] := nil_of_len (by omega)
    subst e1; subst e2
    have hi' := elt_end ea hi
    have hm' := elt_end eb hm
    show l0b_b k (l0 k j) (l0b k j) _ _ _ _ _ = _
    unfold l0b_b
    rw [if_neg (by omega), if_neg (by omega), addT_nil, List.append_nil]
  | succ N ih =>
    intro j out ra rb i m hN hj ea eb hi hm ho
    obtain ⟨j, rfl⟩ : ∃ i, j = i + 1 := ⟨j - 1, by omega⟩
    have ho' : out.length < 1073741824 := by omega
    have wi : IntKind.wrap .i64 ((i : Int) + 1) = ((i + 1 : Nat) : Int) := wrap_succ (by omega)
    have wm : IntKind.wrap .i64 ((m : Int) + 1) = ((m + 1 : Nat) : Int) := wrap_succ (by omega)
    show l0b_b k (l0 k j) (l0b k j) _ _ _ _ _ = _
    unfold l0b_b
    rw [wi, wm]
    cases ra with
    | nil =>
      have hi' := elt_end ea hi
      rw [if_neg (by omega)]
      cases rb with
      | nil =>
        have hm' := elt_end eb hm
        rw [if_neg (by omega), addT_nil, List.append_nil]
      | cons y rb =>
        obtain ⟨g1, g2, g3, g4⟩ := elt_drop eb
        simp only [List.length_cons, List.length_nil] at hN
        rw [if_pos (by omega), if_neg (by omega), if_neg (by omega), if_pos (by omega), g2, Option.bind_some, if_pos ho', ih j (out ++ [y]) [] rb i (m + 1) (by simp; omega) (by omega) ea g3 hi (by omega) (by simp; omega), addT_nil, addT_nil]
        simp
    | cons x ra =>
      obtain ⟨f1, f2, f3, f4⟩ := elt_drop ea
      rw [if_pos (by omega)]
      cases rb with
      | nil =>
        have hm' := elt_end eb hm
        simp only [List.length_cons, List.length_nil] at hN
        rw [if_pos (by omega), f2, Option.bind_some, if_pos ho', ih j (out ++ [x]) ra [] (i + 1) m (by simp; omega) (by omega) f3 eb (by omega) hm (by simp; omega), addT_nil', addT_nil']
        simp
      | cons y rb =>
        obtain ⟨g1, g2, g3, g4⟩ := elt_drop eb
        simp only [List.length_cons] at hN
        rw [if_neg (by omega), if_pos (by omega), f2, Option.bind_some, g2, Option.bind_some]
        rcases Int.lt_trichotomy x.Exp y.Exp with h1 | h1 | h1
        · rw [if_pos h1, if_pos ho', ih j (out ++ [x]) ra (y :: rb) (i + 1) m (by simp only [List.length_cons]; omega) (by omega) f3 eb (by omega) hm (by simp; omega), addT_lt h1]
          simp
        · rw [if_neg (by omega), if_neg (by omega), if_neg (by omega), jnT_val k x y, Option.bind_some, if_pos ho']
          have := ih j (out ++ [jnT x y]) ra rb (i + 1) (m + 1) (by omega) (by omega) f3 g3 (by omega) (by omega) (by simp; omega)
          exact this.trans (by rw [addT_eq h1]; simp)
        · rw [if_neg (by omega), if_neg (by omega), if_pos h1, if_pos ho', ih j (out ++ [y]) (x :: ra) rb i (m + 1) (by simp only [List.length_cons]; omega) (by omega) ea g3 hi (by omega) (by simp; omega), addT_gt h1]
          simp

open Fquadformref26_Add in
theorem adT_val (k : Nat) (A B : List Constituent) (hl : A.length + B.length ≤ 1000) (hk : A.length + B.length < k) : Fquadformref26_Add k A B = some (addT A B) := by
  unfold Fquadformref26_Add Fquadformref26_Add.b
  obtain ⟨j, rfl⟩ : ∃ i, k = i + 1 := ⟨k - 1, by omega⟩
  have e : Fquadformref26_Add.l0 (j + 1) (j + 1) A B 0 0 = l0_b (j + 1) (l0 (j + 1) j) (l0b (j + 1) j) A B 0 0 := rfl
  have fin : ∀ L, ((some (O0.x1 L)).bind fun o => match o with | .x0 => Fquadformref26_Add.c0 (j + 1) | .x1 v0 => Fquadformref26_Add.c1 (j + 1) v0) = some L := fun L => rfl
  have e01 : IntKind.wrap .i64 (0 + 1) = ((1 : Nat) : Int) := rfl
  rw [e]
  unfold l0_b
  rw [e01]
  cases A with
  | nil =>
    rw [if_neg (by simp)]
    cases B with
    | nil => rw [if_neg (by simp), addT_nil]; rfl
    | cons y b =>
      simp only [List.length_cons, List.length_nil] at hl hk
      rw [if_pos (by simp only [List.length_cons]; omega), if_neg (by simp only [List.length_cons]; omega), if_neg (by simp), if_pos (by simp), show elt (y :: b) 0 = some y from rfl, Option.bind_some]
      have := ad_loopT (j + 1) [] (y :: b) (by simp; omega) b.length j [y] [] b 0 1 (by simp) (by omega) rfl rfl (by simp) (by simp) (by simp; omega)
      have this' : l0b (j + 1) j [y] [] (y :: b) 0 ((1 : Nat) : Int) = _ := this
      rw [this', addT_nil, addT_nil]
      exact fin _
  | cons x a =>
    rw [if_pos (by simp only [List.length_cons]; omega)]
    cases B with
    | nil =>
      simp only [List.length_cons, List.length_nil] at hl hk
      rw [if_pos (by simp), show elt (x :: a) 0 = some x from rfl, Option.bind_some]
      have := ad_loopT (j + 1) (x :: a) [] (by simp; omega) a.length j [x] a [] 1 0 (by simp) (by omega) rfl rfl (by simp) (by simp) (by simp; omega)
      have this' : l0b (j + 1) j [x] (x :: a) [] ((1 : Nat) : Int) 0 = _ := this
      rw [this', addT_nil', addT_nil']
      exact fin _
    | cons y b =>
      simp only [List.length_cons] at hl hk
      rw [if_neg (by simp only [List.length_cons]; omega), if_pos (by simp only [List.length_cons]; omega), show elt (x :: a) 0 = some x from rfl, Option.bind_some, show elt (y :: b) 0 = some y from rfl, Option.bind_some]
      rcases Int.lt_trichotomy x.Exp y.Exp with h1 | h1 | h1
      · rw [if_pos h1]
        have := ad_loopT (j + 1) (x :: a) (y :: b) (by simp; omega) (a.length + (b.length + 1)) j [x] a (y :: b) 1 0 (by simp) (by omega) rfl rfl (by simp) (by simp) (by simp; omega)
        have this' : l0b (j + 1) j [x] (x :: a) (y :: b) ((1 : Nat) : Int) 0 = _ := this
        rw [this', addT_lt h1]
        exact fin _
      · rw [if_neg (by omega), if_neg (by simp only [List.length_cons]; omega), if_neg (by omega), jnT_val (j + 1) x y, Option.bind_some]
        have := ad_loopT (j + 1) (x :: a) (y :: b) (by simp; omega) (a.length + b.length) j [jnT x y] a b 1 1 (by simp) (by omega) rfl rfl (by simp) (by simp) (by simp; omega)
        have this' : l0b (j + 1) j [Constituent.mk x.Exp (IntKind.wrap .i64 (x.Dim + y.Dim)) (IntKind.wrap .i64 (x.Sign * y.Sign)) (if x.Odd = true then true else y.Odd) (Int.tmod (IntKind.wrap .i64 (x.Oddity + y.Oddity)) 8)] (x :: a) (y :: b) ((1 : Nat) : Int) ((1 : Nat) : Int) = _ := this
        rw [this', addT_eq h1]
        exact fin _
      · rw [if_neg (by omega), if_neg (by simp only [List.length_cons]; omega), if_pos h1]
        have := ad_loopT (j + 1) (x :: a) (y :: b) (by simp; omega) (a.length + 1 + b.length) j [y] (x :: a) b 0 1 (by simp) (by omega) rfl rfl (by simp) (by simp) (by simp; omega)
        have this' : l0b (j + 1) j [y] (x :: a) (y :: b) 0 ((1 : Nat) : Int) = _ := this
        rw [this', addT_gt h1]
        exact fin _

/-! ### the program -/
open Ftrain_Sum in
theorem sm_loop (k : Nat) (z p : Int) : ∀ (N j : Nat) (out a b : List Constituent), a.length + b.length ≤ N → N < j → out.length + N ≤ 1000 → Ftrain_Sum.l0b k j z p out a b = some (.x1 z p (out ++ addT a b)) := by
  intro N
  induction N with
  | zero =>
    intro j out a b hN hj ho
    obtain ⟨j, rfl⟩ : ∃ i, j = i + 1 := ⟨j - 1, by omega⟩
    rw [nil_of_len (l := a) (by omega), nil_of_len (l := b) (by omega), addT_nil, List.append_nil]
    show l0b_b k (l0 k j) (l0b k j) _ _ _ _ _ = _
    unfold l0b_b
    rw [if_neg (by simp), if_neg (by simp)]
  | succ N ih =>
    intro j out a b hN hj ho
    obtain ⟨j, rfl⟩ : ∃ i, j = i + 1 := ⟨j - 1, by omega⟩
    have ho' : out.length < 1073741824 := by omega
    show l0b_b k (l0 k j) (l0b k j) _ _ _ _ _ = _
    unfold l0b_b
    cases a with
    | nil =>
      rw [if_neg (by simp)]
      cases b with
      | nil => rw [if_neg (by simp), addT_nil, List.append_nil]
      | cons y b =>
        simp only [List.length_cons, List.length_nil] at hN
        have ly : (0 : Int) ≤ (1 : Int) ∧ (1 : Int) ≤ ((y :: b).length : Int) := by simp only [List.length_cons]; omega
        rw [if_pos (by simp only [List.length_cons]; omega), if_neg (by simp only [List.length_cons]; omega), if_neg (by simp), if_pos (by simp), show elt (y :: b) 0 = some y from rfl, Option.bind_some, if_pos ho', if_pos ly]
        have := ih j (out ++ [y]) [] b (by simp; omega) (by omega) (by simp; omega)
        exact this.trans (by rw [addT_nil, addT_nil]; simp)
    | cons x a =>
      have lx : (0 : Int) ≤ (1 : Int) ∧ (1 : Int) ≤ ((x :: a).length : Int) := by simp only [List.length_cons]; omega
      have px : ((x :: a).length : Int) > 0 := by simp only [List.length_cons]; omega
      rw [if_pos px]
      cases b with
      | nil =>
        simp only [List.length_cons, List.length_nil] at hN
        rw [if_pos (by simp), show elt (x :: a) 0 = some x from rfl, Option.bind_some, if_pos ho', if_pos lx]
        have := ih j (out ++ [x]) a [] (by simp; omega) (by omega) (by simp; omega)
        exact this.trans (by rw [addT_nil', addT_nil']; simp)
      | cons y b =>
        simp only [List.length_cons] at hN
        have ly : (0 : Int) ≤ (1 : Int) ∧ (1 : Int) ≤ ((y :: b).length : Int) := by simp only [List.length_cons]; omega
        rw [if_neg (by simp only [List.length_cons]; omega), if_pos px, show elt (x :: a) 0 = some x from rfl, Option.bind_some, show elt (y :: b) 0 = some y from rfl, Option.bind_some]
        rcases Int.lt_trichotomy x.Exp y.Exp with h1 | h1 | h1
        · rw [if_pos h1, if_pos ho', if_pos lx]
          have := ih j (out ++ [x]) a (y :: b) (by simp only [List.length_cons]; omega) (by omega) (by simp; omega)
          exact this.trans (by rw [addT_lt h1]; simp)
        · rw [if_neg (by omega), if_neg (by omega), if_neg (by omega)]
          have := ih j (out ++ [jnT x y]) a b (by omega) (by omega) (by simp; omega)
          have e : some (O0.x1 z p (out ++ addT (x :: a) (y :: b))) = some (O0.x1 z p (out ++ [jnT x y] ++ addT a b)) := by rw [addT_eq h1]; simp
          rw [e, ← this]
          by_cases hx : x.Odd = true
          · rw [if_pos hx, if_pos ho', if_pos lx, if_pos ly]
            have : jnT x y = Constituent.mk x.Exp (IntKind.wrap .i64 (x.Dim + y.Dim)) (IntKind.wrap .i64 (x.Sign * y.Sign)) true (Int.tmod (IntKind.wrap .i64 (x.Oddity + y.Oddity)) 8) := by unfold jnT; rw [if_pos hx]
            rw [this]; rfl
          · rw [if_neg hx, if_pos ho', if_pos lx, if_pos ly]
            have : jnT x y = Constituent.mk x.Exp (IntKind.wrap .i64 (x.Dim + y.Dim)) (IntKind.wrap .i64 (x.Sign * y.Sign)) y.Odd (Int.tmod (IntKind.wrap .i64 (x.Oddity + y.Oddity)) 8) := by unfold jnT; rw [if_neg hx]
            rw [this]; rfl
        · rw [if_neg (by omega), if_neg (by omega), if_pos h1, if_pos ho', if_pos ly]
          have := ih j (out ++ [y]) (x :: a) b (by simp only [List.length_cons]; omega) (by omega) (by simp; omega)
          exact this.trans (by rw [addT_gt h1]; simp)

open Ftrain_Sum in
theorem sm_first (k : Nat) (z p : Int) (a b : List Constituent) (h1 : 1 ≤ a.length) (hl : a.length + b.length ≤ 1000) (j : Nat) (hj : a.length + b.length ≤ j) : Ftrain_Sum.l0 k (j + 1) z p a b = some (.x1 z p (addT a b)) := by
  show l0_b k (l0 k j) (l0b k j) _ _ _ _ = _
  unfold l0_b
  cases a with
  | nil => simp at h1
  | cons x a =>
    have lx : (0 : Int) ≤ (1 : Int) ∧ (1 : Int) ≤ ((x :: a).length : Int) := by simp only [List.length_cons]; omega
    have px : ((x :: a).length : Int) > 0 := by simp only [List.length_cons]; omega
    rw [if_pos px]
    cases b with
    | nil =>
      simp only [List.length_cons, List.length_nil] at hl hj
      rw [if_pos (by simp), show elt (x :: a) 0 = some x from rfl, Option.bind_some, if_pos lx]
      have := sm_loop k z p a.length j [x] a [] (by simp) (by omega) (by simp; omega)
      exact this.trans (by rw [addT_nil', addT_nil']; simp)
    | cons y b =>
      simp only [List.length_cons] at hl hj
      have ly : (0 : Int) ≤ (1 : Int) ∧ (1 : Int) ≤ ((y :: b).length : Int) := by simp only [List.length_cons]; omega
      rw [if_neg (by simp only [List.length_cons]; omega), if_pos px, show elt (x :: a) 0 = some x from rfl, Option.bind_some, show elt (y :: b) 0 = some y from rfl, Option.bind_some]
      rcases Int.lt_trichotomy x.Exp y.Exp with h1 | h1 | h1
      · rw [if_pos h1, if_pos lx]
        have := sm_loop k z p (a.length + (b.length + 1)) j [x] a (y :: b) (by simp only [List.length_cons]; omega) (by omega) (by simp; omega)
        exact this.trans (by rw [addT_lt h1]; simp)
      · rw [if_neg (by omega), if_neg (by omega), if_neg (by omega)]
        have := sm_loop k z p (a.length + b.length) j [jnT x y] a b (by omega) (by omega) (by simp; omega)
        have e : some (O0.x1 z p (addT (x :: a) (y :: b))) = some (O0.x1 z p ([jnT x y] ++ addT a b)) := by rw [addT_eq h1]; simp
        rw [e, ← this]
        by_cases hx : x.Odd = true
        · rw [if_pos hx, if_pos lx, if_pos ly]
          have : jnT x y = Constituent.mk x.Exp (IntKind.wrap .i64 (x.Dim + y.Dim)) (IntKind.wrap .i64 (x.Sign * y.Sign)) true (Int.tmod (IntKind.wrap .i64 (x.Oddity + y.Oddity)) 8) := by unfold jnT; rw [if_pos hx]
          rw [this]; rfl
        · rw [if_neg hx, if_pos lx, if_pos ly]
          have : jnT x y = Constituent.mk x.Exp (IntKind.wrap .i64 (x.Dim + y.Dim)) (IntKind.wrap .i64 (x.Sign * y.Sign)) y.Odd (Int.tmod (IntKind.wrap .i64 (x.Oddity + y.Oddity)) 8) := by unfold jnT; rw [if_neg hx]
          rw [this]; rfl
      · rw [if_neg (by omega), if_neg (by omega), if_pos h1, if_pos ly]
        have := sm_loop k z p (a.length + 1 + b.length) j [y] (x :: a) b (by simp only [List.length_cons]; omega) (by omega) (by simp; omega)
        exact this.trans (by rw [addT_gt h1]; simp)

theorem sumTP_val (k : Nat) (hk : 1500 ≤ k) (p q : Int) (a b : List Constituent) (ha : a.length ≤ 100) (hb : b.length ≤ 100) : Ftrain_Sum k p a q b = some (if (p = 2 ∧ raw2 a) ∧ (q = 2 ∧ raw2 b) ∧ raw2 (addT a b) then (2, addT a b, 0) else (0, [], 22)) := by
  unfold Ftrain_Sum Ftrain_Sum.b
  rw [validT_val k (by omega) p a (by omega) (by omega), Option.bind_some]
  by_cases h1 : p = 2 ∧ raw2 a
  case neg => rw [if_neg (by simpa using h1), if_neg (fun h => h1 h.1)]
  rw [if_pos (by simpa using h1), validT_val k (by omega) q b (by omega) (by omega), Option.bind_some]
  by_cases h2 : q = 2 ∧ raw2 b
  case neg => rw [if_neg (by simpa using h2), if_neg (fun h => h2 h.2.1)]
  have hlen := addT_len _ a b (Nat.le_refl _)
  obtain ⟨j, rfl⟩ : ∃ i, k = i + 1 := ⟨k - 1, by omega⟩
  rw [if_pos (by simpa using h2), sm_first (j + 1) 0 2 a b (ordR_len h1.2.1).1 (by omega) j (by omega)]
  show Ftrain_Sum.c1 (j + 1) 0 2 (addT a b) = _
  unfold Ftrain_Sum.c1
  rw [validT_val (j + 1) (by omega) 2 (addT a b) (by omega) (by omega), Option.bind_some]
  by_cases h3 : raw2 (addT a b)
  · rw [if_pos (by simpa using h3), if_pos ⟨h1, h2, h3⟩]
  · rw [if_neg (by simpa using h3), if_neg (fun h => h3 h.2.2)]

theorem sumTR_val (k : Nat) (hk : 1500 ≤ k) (p q : Int) (a b : List Constituent) (ha : a.length ≤ 100) (hb : b.length ≤ 100) : Fquadformref26_Sum2 k p a q b = some (if (p = 2 ∧ raw2 a) ∧ (q = 2 ∧ raw2 b) ∧ raw2 (addT a b) then (2, addT a b, 0) else (0, [], 22)) := by
  unfold Fquadformref26_Sum2 Fquadformref26_Sum2.b
  rw [valid2_val k p a (by omega) (by omega), Option.bind_some]
  by_cases h1 : p = 2 ∧ raw2 a
  case neg => rw [if_neg (by simpa using h1), if_neg (fun h => h1 h.1)]
  rw [if_pos (by simpa using h1), valid2_val k q b (by omega) (by omega), Option.bind_some]
  by_cases h2 : q = 2 ∧ raw2 b
  case neg => rw [if_neg (by simpa using h2), if_neg (fun h => h2 h.2.1)]
  have hlen := addT_len _ a b (Nat.le_refl _)
  rw [if_pos (by simpa using h2), adT_val k a b (by omega) (by omega), Option.bind_some, valid2_val k 2 (addT a b) (by omega) (by omega), Option.bind_some]
  by_cases h3 : raw2 (addT a b)
  · rw [if_pos (by simpa using h3), if_pos ⟨h1, h2, h3⟩]
  · rw [if_neg (by simpa using h3), if_neg (fun h => h3 h.2.2)]

end Go.Cn
