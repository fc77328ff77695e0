/- The plain law of DyadicConstituents: the first program's loop. -/
import Derived.Test.YtfekcbmhiinioaaQd1
set_option linter.unusedVariables false
noncomputable section
namespace Go.Cn

theorem okb_size {b : Block} (h : okb b) : b.Size = 1 ∨ b.Size = 2 := by rcases h with h | h <;> simp [h.1]

theorem outP_eq (pre p) : outP pre p = (pre ++ [p]).map z := by simp [outP]
theorem detP_eq (pre p) : detP pre p = (pre ++ [p]).map (·.2) := by simp [detP]
theorem outP_new (pre p e) : outP pre p ++ [Constituent.mk e 0 0 false 0] = outP (pre ++ [p]) (new e) := by simp [outP, new, z]
theorem detP_new (pre p e) : detP pre p ++ [1] = detP (pre ++ [p]) (new e) := by simp [detP, new]

theorem drop_elt {α : Type} {L r : List α} {b : α} {n : Nat} (h : L.drop n = b :: r) : n < L.length ∧ elt L (n : Int) = some b ∧ L.drop (n + 1) = r ∧ L[n]? = some b := by
  have h1 : n < L.length := by
    have := congrArg List.length h
    simp at this; omega
  have h2 : L[n]? = some b := by
    have := List.getElem?_drop (xs := L) (i := n) (j := 0)
    rw [h] at this
    simpa using this.symm
  refine ⟨h1, by rw [elt_nat]; exact h2, ?_, h2⟩
  have : L.drop (n + 1) = (L.drop n).drop 1 := by rw [List.drop_drop]
  rw [this, h]; rfl

theorem drop_nil {α : Type} {L : List α} {n : Nat} (h : L.drop n = []) (h' : n ≤ L.length) : n = L.length := by
  have := List.drop_eq_nil_iff.1 h; omega

theorem gd_stepA {pre : List (Constituent × Int)} {p : Constituent × Int} {b : Block} {m : Int} (hp : Gd p) (hpre : ∀ x ∈ pre, Gd x) (hb : okb b) (hd : p.1.Dim ≤ m) (hm : 0 ≤ m) (hm' : m ≤ 900) (h0 : p.1.Exp ≤ b.Exp) (h60 : b.Exp ≤ 60) :
    Gd (stepA pre p b).2 ∧ (∀ x ∈ (stepA pre p b).1, Gd x) ∧ (stepA pre p b).2.1.Dim ≤ m + 2 ∧ (stepA pre p b).2.1.Exp = b.Exp ∧ (stepA pre p b).1.length ≤ pre.length + 1 := by
  have hs := okb_size hb
  unfold stepA
  split
  · next e =>
    refine ⟨good_upd hp hb (by omega), hpre, ?_, e.symm, Nat.le_succ _⟩
    simp only [upd]; omega
  · next e =>
    refine ⟨good_upd (good_new (by have := hp.exp0; omega) h60) hb (by simp [new]), ?_, ?_, rfl, by simp⟩
    · intro x hx
      rcases List.mem_append.1 hx with hx | hx
      · exact hpre x hx
      · simp at hx; subst hx; exact hp
    · simp only [upd, new]; omega

open Fdyadic_Constituents in
theorem l0b_val (k : Nat) (v0 : Int) (v1 : List (List Int)) (L : List Block) (hL : L.length ≤ 8) : ∀ (r : List Block) (j n : Nat) (pre : List (Constituent × Int)) (p : Constituent × Int) (s : Int) (q : Block),
    r.length < j → L.drop n = r → n ≤ L.length → 1 ≤ n → L[n - 1]? = some q → q.Exp = p.1.Exp → Gd p → (∀ x ∈ pre, Gd x) → p.1.Dim ≤ 2 * n → pre.length ≤ n → 0 ≤ s → s ≤ 2 * n →
    l0b k j v0 v1 L (outP pre p) (detP pre p) s p.1.Exp L (L.length : Int) (n : Int) =
      if valid p.1.Exp r then some (.x1 ((runA pre p r).map z) ((runA pre p r).map (·.2)) (s + sizes r)) else some (.ret ([], false)) := by
  intro r
  induction r with
  | nil =>
    intro j n pre p s q hj hr hn h1 hq hqe hp hpre hd hl s0 s1
    obtain ⟨j, rfl⟩ : ∃ i, j = i + 1 := ⟨j - 1, by simp at hj; omega⟩
    have hn' := drop_nil hr hn
    show l0b_b k (l0 k j) (l0b k j) v0 v1 L (outP pre p) (detP pre p) s p.1.Exp L (L.length : Int) (n : Int) = _
    unfold l0b_b
    rw [if_neg (by omega), if_pos (by simp [valid]), outP_eq, detP_eq]
    simp [runA, sizes]
  | cons b r ih =>
    intro j n pre p s q hj hr hn h1 hq hqe hp hpre hd hl s0 s1
    obtain ⟨j, rfl⟩ : ∃ i, j = i + 1 := ⟨j - 1, by simp at hj; omega⟩
    obtain ⟨g1, g2, g3, g4⟩ := drop_elt hr
    show l0b_b k (l0 k j) (l0b k j) v0 v1 L (outP pre p) (detP pre p) s p.1.Exp L (L.length : Int) (n : Int) = _
    unfold l0b_b
    rw [if_pos (by omega), g2, Option.bind_some]
    by_cases e1 : b.Exp < p.1.Exp
    · rw [if_pos e1, if_neg (by simp only [valid]; omega)]
    rw [if_neg e1]
    by_cases e2 : b.Exp > 60
    · rw [if_pos e2, if_neg (by simp only [valid]; omega)]
    rw [if_neg e2, proper_eq, Option.bind_some]
    by_cases hb : okb b
    case neg =>
      rw [if_neg (by simp [hb]), if_neg (by simp [valid, hb])]
    have hs := okb_size hb
    rw [if_pos (by simp [hb]), if_neg (by omega)]
    have hw1 : IntKind.wrap .i64 ((n : Int) - 1) = ((n - 1 : Nat) : Int) := by rw [wrap_id (by omega) (by omega)]; omega
    rw [hw1, elt_nat, hq, Option.bind_some, hqe]
    have hw2 : IntKind.wrap .i64 ((n : Int) + 1) = ((n + 1 : Nat) : Int) := by rw [wrap_id (by omega) (by omega)]; omega
    have hw3 : IntKind.wrap .i64 (s + b.Size) = s + b.Size := wrap_id (by omega) (by omega)
    obtain ⟨u1, u2, u3, u4, u5⟩ := gd_stepA (m := 2 * n) hp hpre hb (by omega) (by omega) (by omega) (by omega) (by omega)
    have key := ih j (n + 1) (stepA pre p b).1 (stepA pre p b).2 (s + b.Size) b (by simp at hj; omega) g3 (by omega) (by omega) (by simpa using g4) (by rw [u4]) u1 u2 (by omega) (by omega) (by omega) (by omega)
    rw [u4] at key
    have fin : (if valid b.Exp r then some (O0.x1 ((runA (stepA pre p b).1 (stepA pre p b).2 r).map z) ((runA (stepA pre p b).1 (stepA pre p b).2 r).map (·.2)) (s + b.Size + sizes r)) else some (.ret ([], false))) = (if valid p.1.Exp (b :: r) then some (O0.x1 ((runA pre p (b :: r)).map z) ((runA pre p (b :: r)).map (·.2)) (s + sizes (b :: r))) else some (.ret ([], false))) := by
      have hv : valid p.1.Exp (b :: r) ↔ valid b.Exp r := by
        show (p.1.Exp ≤ b.Exp ∧ b.Exp ≤ 60 ∧ okb b ∧ valid b.Exp r) ↔ _
        constructor
        · intro h; exact h.2.2.2
        · intro h; exact ⟨by omega, by omega, hb, h⟩
      simp only [hv, runA, sizes, Int.add_assoc]
    by_cases e3 : b.Exp = p.1.Exp
    · rw [if_pos e3, c0_val k _ _ v0 v1 L pre p b _ _ _ _ _ hp hb (by omega) (by omega), hw2, hw3]
      have : stepA pre p b = (pre, upd p b) := if_pos e3
      rw [this] at key fin
      exact key.trans fin
    · have l1' : (outP pre p).length < 1073741824 := by simp [outP]; omega
      have l2' : (detP pre p).length < 1073741824 := by simp [detP]; omega
      have hgn : Gd (new b.Exp) := good_new (by have := hp.exp0; omega) (by omega)
      rw [if_neg e3, if_pos l1', if_pos l2', outP_new, detP_new (e := b.Exp), c0_val k _ _ v0 v1 L (pre ++ [p]) (new b.Exp) b _ _ _ _ _ hgn hb (by simp [new]) (by simp; omega), hw2, hw3]
      have : stepA pre p b = (pre ++ [p], upd (new b.Exp) b) := if_neg e3
      rw [this] at key fin
      exact key.trans fin

end Go.Cn
