/- The sum of two symbols: what the document computes. -/
import Derived.Test.YteokapmkfoogaaaGreatDoorQu4
set_option linter.unusedVariables false
noncomputable section
open Classical
namespace Go.Cn

open Fquadformref26_Add in
theorem ad_loop (k : Nat) (A B : List Constituent) (hA : ∀ c ∈ A, okC c) (hB : ∀ c ∈ B, okC c) (hl : A.length + B.length ≤ 1000) : ∀ (N j : Nat) (out ra rb : List Constituent) (i m : Nat), ra.length + rb.length ≤ N → N < j → A.drop i = ra → B.drop m = rb → i ≤ A.length → m ≤ B.length → out.length + N ≤ 1000 →
    Fquadformref26_Add.l0b k j out A B (i : Int) (m : Int) = some (.x1 (out ++ addS ra rb)) := by
  intro N
  induction N with
  | zero =>
    intro j out ra rb i m hN hj ea eb hi hm ho
    obtain ⟨j, rfl⟩ : ∃ i, j = i + 1 := ⟨j - 1, by omega⟩
    have e1 : ra = [] := nil_of_len (by omega)
    have e2 : rb = [] := nil_of_len (by omega)
    subst e1; subst e2
    have hi' := drop_nilS ea hi
    have hm' := drop_nilS eb hm
    show l0b_b k (l0 k j) (l0b k j) _ _ _ _ _ = _
    unfold l0b_b
    rw [if_neg (by omega), if_neg (by omega), addS_nil, List.append_nil]
  | succ N ih =>
    intro j out ra rb i m hN hj ea eb hi hm ho
    obtain ⟨j, rfl⟩ : ∃ i, j = i + 1 := ⟨j - 1, by omega⟩
    have ho' : out.length < 1073741824 := by omega
    have wi : IntKind.wrap .i64 ((i : Int) + 1) = ((i + 1 : Nat) : Int) := by rw [wrap_id (by omega) (by omega)]; omega
    have wm : IntKind.wrap .i64 ((m : Int) + 1) = ((m + 1 : Nat) : Int) := by rw [wrap_id (by omega) (by omega)]; omega
    show l0b_b k (l0 k j) (l0b k j) _ _ _ _ _ = _
    unfold l0b_b
    rw [wi, wm]
    cases ra with
    | nil =>
      have hi' := drop_nilS ea hi
      rw [if_neg (by omega)]
      cases rb with
      | nil =>
        have hm' := drop_nilS eb hm
        rw [if_neg (by omega), addS_nil, List.append_nil]
      | cons y rb =>
        obtain ⟨g1, g2, g3, g4⟩ := drop_eltS eb
        simp only [List.length_cons, List.length_nil] at hN
        rw [if_pos (by omega), if_neg (by omega), if_neg (by omega), if_pos (by omega), g2, Option.bind_some, if_pos ho', ih j (out ++ [y]) [] rb i (m + 1) (by simp; omega) (by omega) ea g3 hi (by omega) (by simp; omega), addS_nil, addS_nil]
        simp
    | cons x ra =>
      obtain ⟨f1, f2, f3, f4⟩ := drop_eltS ea
      have hx := hA x (List.mem_of_getElem? f4)
      rw [if_pos (by omega)]
      cases rb with
      | nil =>
        have hm' := drop_nilS eb hm
        simp only [List.length_cons, List.length_nil] at hN
        rw [if_pos (by omega), f2, Option.bind_some, if_pos ho', ih j (out ++ [x]) ra [] (i + 1) m (by simp; omega) (by omega) f3 eb (by omega) hm (by simp; omega), addS_nil', addS_nil']
        simp
      | cons y rb =>
        obtain ⟨g1, g2, g3, g4⟩ := drop_eltS eb
        have hy := hB y (List.mem_of_getElem? g4)
        simp only [List.length_cons] at hN
        rw [if_neg (by omega), if_pos (by omega), f2, Option.bind_some, g2, Option.bind_some]
        rcases Int.lt_trichotomy x.Exp y.Exp with h1 | h1 | h1
        · rw [if_pos h1, if_pos ho', ih j (out ++ [x]) ra (y :: rb) (i + 1) m (by simp only [List.length_cons]; omega) (by omega) f3 eb (by omega) hm (by simp; omega), addS_lt h1]
          simp
        · rw [if_neg (by omega), if_neg (by omega), if_neg (by omega), jnR_val k hx hy, Option.bind_some, if_pos ho']
          have := ih j (out ++ [jn x y]) ra rb (i + 1) (m + 1) (by omega) (by omega) f3 g3 (by omega) (by omega) (by simp; omega)
          exact this.trans (by rw [addS_eq h1]; simp)
        · rw [if_neg (by omega), if_neg (by omega), if_pos h1, if_pos ho', ih j (out ++ [y]) (x :: ra) rb i (m + 1) (by simp only [List.length_cons]; omega) (by omega) ea g3 hi (by omega) (by simp; omega), addS_gt h1]
          simp

open Fquadformref26_Add in
theorem ad_val (k : Nat) (A B : List Constituent) (hA : ∀ c ∈ A, okC c) (hB : ∀ c ∈ B, okC c) (hl : A.length + B.length ≤ 1000) (hk : A.length + B.length < k) : Fquadformref26_Add k A B = some (addS A B) := by
  unfold Fquadformref26_Add Fquadformref26_Add.b
  obtain ⟨j, rfl⟩ : ∃ i, k = i + 1 := ⟨k - 1, by omega⟩
  have e : Fquadformref26_Add.l0 (j + 1) (j + 1) A B 0 0 = l0_b (j + 1) (l0 (j + 1) j) (l0b (j + 1) j) A B 0 0 := rfl
  have fin : ∀ L, ((some (O0.x1 L)).bind fun o => match o with | .x0 => Fquadformref26_Add.c0 (j + 1) | .x1 v0 => Fquadformref26_Add.c1 (j + 1) v0) = some L := fun L => rfl
  have e01 : IntKind.wrap .i64 (0 + 1) = ((1 : Nat) : Int) := rfl
  have e0 : (0 : Int) = ((0 : Nat) : Int) := rfl
  rw [e]
  unfold l0_b
  rw [e01]
  cases A with
  | nil =>
    rw [if_neg (by simp)]
    cases B with
    | nil => rw [if_neg (by simp), addS_nil]; rfl
    | cons y b =>
      simp only [List.length_cons, List.length_nil] at hl hk
      rw [if_pos (by simp only [List.length_cons]; omega), if_neg (by simp only [List.length_cons]; omega), if_neg (by simp), if_pos (by simp), show elt (y :: b) 0 = some y from rfl, Option.bind_some]
      have := ad_loop (j + 1) [] (y :: b) hA hB (by simp; omega) b.length j [y] [] b 0 1 (by simp) (by omega) rfl rfl (by simp) (by simp) (by simp; omega)
      have this' : l0b (j + 1) j [y] [] (y :: b) 0 ((1 : Nat) : Int) = _ := this
      rw [this', addS_nil, addS_nil]
      exact fin _
  | cons x a =>
    have hx := hA x (by simp)
    rw [if_pos (by simp only [List.length_cons]; omega)]
    cases B with
    | nil =>
      simp only [List.length_cons, List.length_nil] at hl hk
      rw [if_pos (by simp), show elt (x :: a) 0 = some x from rfl, Option.bind_some]
      have := ad_loop (j + 1) (x :: a) [] hA hB (by simp; omega) a.length j [x] a [] 1 0 (by simp) (by omega) rfl rfl (by simp) (by simp) (by simp; omega)
      have this' : l0b (j + 1) j [x] (x :: a) [] ((1 : Nat) : Int) 0 = _ := this
      rw [this', addS_nil', addS_nil']
      exact fin _
    | cons y b =>
      have hy := hB y (by simp)
      simp only [List.length_cons] at hl hk
      rw [if_neg (by simp only [List.length_cons]; omega), if_pos (by simp only [List.length_cons]; omega), show elt (x :: a) 0 = some x from rfl, Option.bind_some, show elt (y :: b) 0 = some y from rfl, Option.bind_some]
      rcases Int.lt_trichotomy x.Exp y.Exp with h1 | h1 | h1
      · rw [if_pos h1]
        have := ad_loop (j + 1) (x :: a) (y :: b) hA hB (by simp; omega) (a.length + (b.length + 1)) j [x] a (y :: b) 1 0 (by simp) (by omega) rfl rfl (by simp) (by simp) (by simp; omega)
        have this' : l0b (j + 1) j [x] (x :: a) (y :: b) ((1 : Nat) : Int) 0 = _ := this
        rw [this', addS_lt h1]
        exact fin _
      · rw [if_neg (by omega), if_neg (by simp only [List.length_cons]; omega), if_neg (by omega), jnR_val (j + 1) hx hy, Option.bind_some]
        have := ad_loop (j + 1) (x :: a) (y :: b) hA hB (by simp; omega) (a.length + b.length) j [jn x y] a b 1 1 (by simp) (by omega) rfl rfl (by simp) (by simp) (by simp; omega)
        have this' : l0b (j + 1) j [Constituent.mk x.Exp (x.Dim + y.Dim) (x.Sign * y.Sign) false 0] (x :: a) (y :: b) ((1 : Nat) : Int) ((1 : Nat) : Int) = _ := this
        rw [this', addS_eq h1]
        exact fin _
      · rw [if_neg (by omega), if_neg (by simp only [List.length_cons]; omega), if_pos h1]
        have := ad_loop (j + 1) (x :: a) (y :: b) hA hB (by simp; omega) (a.length + 1 + b.length) j [y] (x :: a) b 0 1 (by simp) (by omega) rfl rfl (by simp) (by simp) (by simp; omega)
        have this' : l0b (j + 1) j [y] (x :: a) (y :: b) 0 ((1 : Nat) : Int) = _ := this
        rw [this', addS_gt h1]
        exact fin _

theorem sumR_val (k : Nat) (hk : 2000 ≤ k) (p q : Int) (a b : List Constituent) (la : a.length ≤ 100) (lb : b.length ≤ 100) : Fquadformref26_Sum k p a q b = some (if symP p a ∧ symP q b ∧ p = q ∧ symP p (addS a b) then (p, addS a b, 0) else (0, [], 22)) := by
  unfold Fquadformref26_Sum Fquadformref26_Sum.b
  rw [validR_val k p a (by omega) (by omega), Option.bind_some]
  by_cases h1 : symP p a
  case neg => rw [if_neg (by simpa using h1), if_neg (fun h => h1 h.1)]
  rw [if_pos (by simpa using h1), validR_val k q b (by omega) (by omega), Option.bind_some]
  by_cases h2 : symP q b
  case neg => rw [if_neg (by simpa using h2), if_neg (fun h => h2 h.2.1)]
  rw [if_pos (by simpa using h2)]
  by_cases h3 : p = q
  case neg => rw [if_neg h3, if_neg (fun h => h3 h.2.2.1)]
  have hlen := addS_len (a.length + b.length) a b (Nat.le_refl _)
  rw [if_pos h3, ad_val k a b (asc_okC (by omega) h1.2.2.2.1) (asc_okC (by omega) h2.2.2.2.1) (by omega) (by omega), Option.bind_some, validR_val k p (addS a b) (by omega) (by omega), Option.bind_some]
  by_cases h4 : symP p (addS a b)
  case neg => rw [if_neg (by simpa using h4), if_neg (fun h => h4 h.2.2.2)]
  rw [if_pos (by simpa using h4), if_pos ⟨h1, h2, h3, h4⟩]

/-- The plain law. -/
theorem lawSum (p0_Prime : Int) (p0_List : List Constituent) (p1_Prime : Int) (p1_List : List Constituent) (p2_Prime : Int) (p2_Parts : List A5u8) (p3_Prime : Int) (p3_Parts : List A5u8) (p4 p5 : Bool) (h2 : okI .u8 p2_Prime) (h2' : okL ok_A5u8 p2_Parts) (h3 : okI .u8 p3_Prime) (h3' : okL ok_A5u8 p3_Parts) :
    Fquadformlaw26_SymbolSum 2500 p0_Prime p0_List p1_Prime p1_List p2_Prime p2_Parts p3_Prime p3_Parts p4 p5 = some true := by
  unfold Fquadformlaw26_SymbolSum Fquadformlaw26_SymbolSum.b Fquadformlaw26_long Fquadformlaw26_long.b
  rw [Option.bind_some]
  by_cases l1 : (p0_List.length : Int) > 20
  · rw [if_pos (by simpa using l1)]; rfl
  rw [if_neg (by simpa using l1), Option.bind_some]
  by_cases l2 : (p1_List.length : Int) > 20
  · rw [if_pos (by simpa using l2)]; rfl
  rw [if_neg (by simpa using l2)]
  by_cases l3 : (p2_Parts.length : Int) > 20
  · rw [if_pos l3]; rfl
  rw [if_neg l3]
  by_cases l4 : (p3_Parts.length : Int) > 20
  · rw [if_pos l4]; rfl
  rw [if_neg l4]
  have key : ∀ (w : Int), okI .u8 w → Fquadformlaw26_SymbolSum.c0 2500 p0_Prime p0_List p1_Prime p1_List p2_Prime p2_Parts w p3_Parts p4 = some true := by
    intro w hw
    unfold Fquadformlaw26_SymbolSum.c0
    obtain ⟨q, a, ha, la⟩ := either_some 2500 p0_Prime p0_List p2_Prime p2_Parts p4 (by omega) h2 (by omega) h2'.2 (by decide)
    obtain ⟨q', b, hb, lb⟩ := either_some 2500 p1_Prime p1_List w p3_Parts p4 (by omega) hw (by omega) h3'.2 (by decide)
    rw [ha, Option.bind_some, hb, Option.bind_some]
    dsimp only
    have hlen := addS_len (a.length + b.length) a b (Nat.le_refl _)
    rw [sumP_val 2500 (by decide), sumR_val 2500 (by decide) q q' a b (by omega) (by omega), Option.bind_some, Option.bind_some, if_pos rfl]
    have hb : ((if symP q a ∧ symP q' b ∧ q = q' ∧ symP q (addS a b) then (q, addS a b, (0 : Int)) else (0, [], 22)).2.1).length ≤ 40 := by
      split
      · show (addS a b).length ≤ 40; omega
      · simp
    rw [same_sym 2500 _ _ (by omega) (by omega), Option.bind_some, if_pos rfl]
    rfl
  by_cases l5 : p5 = true
  · rw [if_pos l5]; exact key p2_Prime h2
  · rw [if_neg l5]; exact key p3_Prime h3

end Go.Cn
