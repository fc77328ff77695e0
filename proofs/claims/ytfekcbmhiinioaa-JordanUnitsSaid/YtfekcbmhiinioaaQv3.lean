/- The plain law of JordanUnits: lists, blocks, signs. -/
import Derived.Test.YtfekcbmhiinioaaQv2
set_option linter.unusedVariables false
noncomputable section
open Classical
namespace Go.Cn

open Fquadformref24_SameList in
theorem same_loopJ (k : Nat) (L : List Constituent) (hL : L.length < 1000) : ∀ (r : List Constituent) (j n : Nat), r.length < j → L.drop n = r → n ≤ L.length → Fquadformref24_SameList.l0 k j L L (L.length : Int) (n : Int) = some .x0 := by
  intro r
  induction r with
  | nil =>
    intro j n hj hr hn
    obtain ⟨j, rfl⟩ : ∃ i, j = i + 1 := ⟨j - 1, by simp at hj; omega⟩
    have hn' := drop_nilJ hr hn
    show l0_b k (l0 k j) _ _ _ _ = _
    unfold l0_b
    rw [if_neg (by omega)]
  | cons b r ih =>
    intro j n hj hr hn
    obtain ⟨j, rfl⟩ : ∃ i, j = i + 1 := ⟨j - 1, by simp at hj; omega⟩
    obtain ⟨g1, g2, g3, g4⟩ := drop_eltJ hr
    show l0_b k (l0 k j) _ _ _ _ = _
    unfold l0_b
    have hw2 : IntKind.wrap .i64 ((n : Int) + 1) = ((n + 1 : Nat) : Int) := by rw [wrap_id (by omega) (by omega)]; omega
    rw [if_pos (by omega), g2, Option.bind_some, Option.bind_some, if_pos rfl, hw2]
    exact ih j (n + 1) (by simp at hj; omega) g3 (by omega)

theorem same_selfJ (k : Nat) (L : List Constituent) (hL : L.length < 1000) (hk : L.length < k) : Fquadformref24_SameList k L L = some true := by
  unfold Fquadformref24_SameList Fquadformref24_SameList.b
  rw [if_pos rfl]
  have := same_loopJ k L hL L k 0 hk rfl (by omega)
  have e0 : ((0 : Nat) : Int) = 0 := rfl
  rw [e0] at this
  rw [this]
  rfl

theorem runJ_len (k : Nat) (p : Int) : ∀ (r : List Block) (pre : List Constituent) (c : Constituent), (runJ k p pre c r).length ≤ pre.length + 1 + r.length := by
  intro r
  induction r with
  | nil => intro pre c; simp [runJ]
  | cons b r ih =>
    intro pre c
    have h1 : (stepJ k p pre c b).1.length ≤ pre.length + 1 := by
      unfold stepJ
      split
      · exact Nat.le_succ _
      · simp
    have h2 := ih (stepJ k p pre c b).1 (stepJ k p pre c b).2
    simp only [runJ, List.length_cons]
    omega

theorem runLJ_len (k : Nat) (p : Int) (L : List Block) (hL : L.length ≤ 8) : (runLJ k p L).length ≤ 20 := by
  cases L with
  | nil => simp [runLJ]
  | cons b r =>
    have := runJ_len k p r [] (upJ (newJ b.Exp) (leg k p b.A))
    simp only [runLJ, List.length_nil, List.length_cons] at this hL ⊢
    omega


/-! ### one block times a square, or times a number -/
def upE (e t : Int) (c : Constituent) : Constituent := if c.Exp = e then ⟨c.Exp, c.Dim, c.Sign * t, c.Odd, c.Oddity⟩ else c

theorem upE_exp (e t : Int) (c : Constituent) : (upE e t c).Exp = c.Exp := by unfold upE; split <;> rfl
theorem upE_up (e t s : Int) (c : Constituent) : upE e t (upJ c s) = upJ (upE e t c) s := by
  unfold upE
  have h : (upJ c s).Exp = c.Exp := rfl
  rw [h]
  split
  · simp only [upJ]
    rw [Int.mul_assoc, Int.mul_comm s t, ← Int.mul_assoc]
  · rfl
theorem upE_ne {e t : Int} {c : Constituent} (h : c.Exp ≠ e) : upE e t c = c := if_neg h

theorem run_after (k : Nat) (p e t : Int) : ∀ (r : List Block) (pre : List Constituent) (c : Constituent), e ≤ c.Exp → validJ p c.Exp r → runJ k p (pre.map (upE e t)) (upE e t c) r = (runJ k p pre c r).map (upE e t) := by
  intro r
  induction r with
  | nil => intro pre c h hv; simp [runJ]
  | cons b r ih =>
    intro pre c h hv
    simp only [validJ] at hv
    simp only [runJ]
    by_cases h1 : b.Exp = c.Exp
    · have e1 : stepJ k p (pre.map (upE e t)) (upE e t c) b = (pre.map (upE e t), upE e t (upJ c (leg k p b.A))) := by
        unfold stepJ
        rw [upE_exp, if_pos h1, upE_up]
      have e2 : stepJ k p pre c b = (pre, upJ c (leg k p b.A)) := if_pos h1
      rw [e1, e2]
      exact ih pre (upJ c (leg k p b.A)) h (by rw [show (upJ c (leg k p b.A)).Exp = b.Exp from h1.symm]; exact hv.2.2.2)
    · have hne : (upJ (newJ b.Exp) (leg k p b.A)).Exp ≠ e := by show b.Exp ≠ e; omega
      have e1 : stepJ k p (pre.map (upE e t)) (upE e t c) b = ((pre ++ [c]).map (upE e t), upE e t (upJ (newJ b.Exp) (leg k p b.A))) := by
        unfold stepJ
        rw [upE_exp, if_neg h1, upE_ne hne]
        simp
      have e2 : stepJ k p pre c b = (pre ++ [c], upJ (newJ b.Exp) (leg k p b.A)) := if_neg h1
      rw [e1, e2]
      exact ih (pre ++ [c]) (upJ (newJ b.Exp) (leg k p b.A)) (show e ≤ b.Exp by omega) hv.2.2.2

theorem map_same {e t : Int} : ∀ {l : List Constituent}, (∀ x ∈ l, x.Exp < e) → l.map (upE e t) = l
  | [], _ => rfl
  | c :: l, h => by
    have h1 := h c (by simp)
    rw [List.map_cons, upE_ne (by omega), map_same (fun x hx => h x (by simp [hx]))]

theorem run_at (k : Nat) (p t : Int) (b b2 : Block) (R : List Block) (hE : b2.Exp = b.Exp) (hl : leg k p b2.A = leg k p b.A * t) : ∀ (Q : List Block) (pre : List Constituent) (c : Constituent),
    (∀ x ∈ pre, x.Exp < c.Exp) → validJ p c.Exp (Q ++ b :: R) → runJ k p pre c (Q ++ b2 :: R) = (runJ k p pre c (Q ++ b :: R)).map (upE b.Exp t) := by
  intro Q
  induction Q with
  | nil =>
    intro pre c ha hv
    simp only [List.nil_append] at hv ⊢
    simp only [validJ] at hv
    simp only [runJ]
    by_cases h1 : b.Exp = c.Exp
    · have e2 : stepJ k p pre c b = (pre, upJ c (leg k p b.A)) := if_pos h1
      have e1 : stepJ k p pre c b2 = (pre.map (upE b.Exp t), upE b.Exp t (upJ c (leg k p b.A))) := by
        unfold stepJ
        rw [hE, if_pos h1, map_same (fun x hx => by rw [h1]; exact ha x hx), hl]
        have : upE b.Exp t (upJ c (leg k p b.A)) = upJ c (leg k p b.A * t) := by
          unfold upE
          rw [if_pos (show (upJ c (leg k p b.A)).Exp = b.Exp from h1.symm)]
          simp only [upJ, Int.mul_assoc]
        rw [this]
      rw [e1, e2]
      exact run_after k p b.Exp t R pre (upJ c (leg k p b.A)) (show b.Exp ≤ c.Exp by omega) (by rw [show (upJ c (leg k p b.A)).Exp = b.Exp from h1.symm]; exact hv.2.2.2)
    · have e2 : stepJ k p pre c b = (pre ++ [c], upJ (newJ b.Exp) (leg k p b.A)) := if_neg h1
      have e1 : stepJ k p pre c b2 = ((pre ++ [c]).map (upE b.Exp t), upE b.Exp t (upJ (newJ b.Exp) (leg k p b.A))) := by
        unfold stepJ
        rw [hE, if_neg h1, map_same (l := pre ++ [c]) (fun x hx => by
          rcases List.mem_append.1 hx with hx | hx
          · have := ha x hx; omega
          · simp at hx; subst hx; omega), hl]
        have : upE b.Exp t (upJ (newJ b.Exp) (leg k p b.A)) = upJ (newJ b.Exp) (leg k p b.A * t) := by
          unfold upE
          rw [if_pos (show (upJ (newJ b.Exp) (leg k p b.A)).Exp = b.Exp from rfl)]
          simp only [upJ, Int.mul_assoc]
        rw [this]
      rw [e1, e2]
      exact run_after k p b.Exp t R (pre ++ [c]) (upJ (newJ b.Exp) (leg k p b.A)) (Int.le_refl _) hv.2.2.2
  | cons q Q ih =>
    intro pre c ha hv
    simp only [List.cons_append] at hv ⊢
    simp only [validJ] at hv
    simp only [runJ]
    by_cases h1 : q.Exp = c.Exp
    · have e2 : stepJ k p pre c q = (pre, upJ c (leg k p q.A)) := if_pos h1
      rw [e2]
      exact ih pre (upJ c (leg k p q.A)) ha (by rw [show (upJ c (leg k p q.A)).Exp = q.Exp from h1.symm]; exact hv.2.2.2)
    · have e2 : stepJ k p pre c q = (pre ++ [c], upJ (newJ q.Exp) (leg k p q.A)) := if_neg h1
      rw [e2]
      refine ih (pre ++ [c]) (upJ (newJ q.Exp) (leg k p q.A)) (fun x hx => ?_) hv.2.2.2
      show x.Exp < q.Exp
      rcases List.mem_append.1 hx with hx | hx
      · have := ha x hx; omega
      · simp at hx; subst hx; omega

theorem runL_at (k : Nat) (p t : Int) (b b2 : Block) (R : List Block) (hE : b2.Exp = b.Exp) (hl : leg k p b2.A = leg k p b.A * t) (Q : List Block) (hv : validJ p 0 (Q ++ b :: R)) :
    runLJ k p (Q ++ b2 :: R) = (runLJ k p (Q ++ b :: R)).map (upE b.Exp t) := by
  cases Q with
  | nil =>
    simp only [List.nil_append] at hv ⊢
    simp only [validJ] at hv
    simp only [runLJ]
    have : upJ (newJ b2.Exp) (leg k p b2.A) = upE b.Exp t (upJ (newJ b.Exp) (leg k p b.A)) := by
      unfold upE
      rw [if_pos (show (upJ (newJ b.Exp) (leg k p b.A)).Exp = b.Exp from rfl), hE, hl]
      simp only [upJ, Int.mul_assoc]
    rw [this]
    exact run_after k p b.Exp t R [] (upJ (newJ b.Exp) (leg k p b.A)) (Int.le_refl _) hv.2.2.2
  | cons q Q =>
    simp only [List.cons_append] at hv ⊢
    simp only [validJ] at hv
    simp only [runLJ]
    exact run_at k p t b b2 R hE hl Q [] (upJ (newJ q.Exp) (leg k p q.A)) (fun x hx => absurd hx (by simp)) hv.2.2.2

theorem valid_at {p : Int} {b b2 : Block} {R : List Block} (hE : b2.Exp = b.Exp) (hb : okp p b2) : ∀ {Q : List Block} {e : Int}, validJ p e (Q ++ b :: R) → validJ p e (Q ++ b2 :: R)
  | [], e, h => by
    simp only [List.nil_append] at h ⊢
    simp only [validJ] at h ⊢
    rw [hE]
    exact ⟨h.1, h.2.1, hb, h.2.2.2⟩
  | q :: Q, e, h => by
    simp only [List.cons_append] at h ⊢
    simp only [validJ] at h ⊢
    exact ⟨h.1, h.2.1, h.2.2.1, valid_at hE hb h.2.2.2⟩

theorem upE_upE {e t : Int} (ht : t * t = 1) (l : List Constituent) : (l.map (upE e t)).map (upE e t) = l := by
  induction l with
  | nil => rfl
  | cons c l ih =>
    simp only [List.map_cons, ih]
    congr 1
    unfold upE
    by_cases h : c.Exp = e
    · rw [if_pos h]
      simp only [if_pos h, Int.mul_assoc, ht, Int.mul_one]
    · rw [if_neg h, if_neg h]

theorem upE_one {e : Int} (l : List Constituent) : l.map (upE e 1) = l := by
  induction l with
  | nil => rfl
  | cons c l ih =>
    simp only [List.map_cons, ih]
    congr 1
    unfold upE
    split
    · simp only [Int.mul_one]
    · rfl

def Sg (c : Constituent) : Prop := c.Sign = 1 ∨ c.Sign = -1
theorem sg_up {c : Constituent} {s : Int} (h : Sg c) (hs : s = 1 ∨ s = -1) : Sg (upJ c s) := by
  rcases h with h | h <;> rcases hs with rfl | rfl <;> simp [Sg, upJ, h]

theorem run_sign (k : Nat) (hk : 150 ≤ k) (p : Int) (hp : oddPrime p) : ∀ (r : List Block) (pre : List Constituent) (c : Constituent), (∀ x ∈ pre, Sg x) → Sg c → validJ p c.Exp r → ∀ x ∈ runJ k p pre c r, Sg x := by
  intro r
  induction r with
  | nil =>
    intro pre c h1 h2 hv x hx
    rcases List.mem_append.1 hx with hx | hx
    · exact h1 x hx
    · simp at hx; subst hx; exact h2
  | cons b r ih =>
    intro pre c h1 h2 hv
    simp only [validJ] at hv
    have hs := (leg_spec k hk p hp b.A hv.2.2.1.2.1).1
    simp only [runJ]
    by_cases h : b.Exp = c.Exp
    · have e2 : stepJ k p pre c b = (pre, upJ c (leg k p b.A)) := if_pos h
      rw [e2]
      exact ih pre _ h1 (sg_up h2 hs) (by rw [show (upJ c (leg k p b.A)).Exp = b.Exp from h.symm]; exact hv.2.2.2)
    · have e2 : stepJ k p pre c b = (pre ++ [c], upJ (newJ b.Exp) (leg k p b.A)) := if_neg h
      rw [e2]
      refine ih (pre ++ [c]) _ (fun x hx => ?_) (sg_up (.inl rfl) hs) hv.2.2.2
      rcases List.mem_append.1 hx with hx | hx
      · exact h1 x hx
      · simp at hx; subst hx; exact h2

theorem runL_sign (k : Nat) (hk : 150 ≤ k) (p : Int) (hp : oddPrime p) (L : List Block) (hv : validJ p 0 L) : ∀ x ∈ runLJ k p L, Sg x := by
  cases L with
  | nil => intro x hx; simp [runLJ] at hx
  | cons b r =>
    simp only [validJ] at hv
    exact run_sign k hk p hp r [] _ (fun x hx => absurd hx (by simp)) (sg_up (.inl rfl) (leg_spec k hk p hp b.A hv.2.2.1.2.1).1) hv.2.2.2

end Go.Cn
