/- The plain law of JordanConstituents: the loops. -/
import Derived.Test.YtfekcbmhiinioaaQv1
set_option linter.unusedVariables false
noncomputable section
open Classical
namespace Go.Cn

def okp (p : Int) (b : Block) : Prop := b.Size = 1 ∧ ¬ b.A % p = 0 ∧ b.B = 0 ∧ b.C = 0

theorem tmod_zero {a p : Int} : Int.tmod a p = 0 ↔ a % p = 0 :=
  ⟨fun h => Int.emod_eq_zero_of_dvd (Int.dvd_of_tmod_eq_zero h), fun h => Int.tmod_eq_zero_of_dvd (Int.dvd_of_emod_eq_zero h)⟩

def leg (k : Nat) (p A : Int) : Int := (Fquadformref22_Legendre k A p).getD 0

theorem leg_spec (k : Nat) (hk : 150 ≤ k) (p : Int) (hp : oddPrime p) (A : Int) (hA : ¬ A % p = 0) :
    (leg k p A = 1 ∨ leg k p A = -1) ∧ Fprime_Kronecker k (A % p) p = some (leg k p A, 0) ∧ Fquadformref22_Legendre k A p = some (leg k p A) := by
  obtain ⟨s, h1, h2, h3⟩ := symbols k hk p hp A hA
  have : leg k p A = s := by unfold leg; rw [h3]; rfl
  rw [this]
  exact ⟨h1, h2, h3⟩

def upJ (c : Constituent) (s : Int) : Constituent := ⟨c.Exp, c.Dim + 1, c.Sign * s, c.Odd, c.Oddity⟩
def newJ (e : Int) : Constituent := ⟨e, 0, 1, false, 0⟩
def stepJ (k : Nat) (p : Int) (pre : List Constituent) (c : Constituent) (b : Block) : List Constituent × Constituent :=
  if b.Exp = c.Exp then (pre, upJ c (leg k p b.A)) else (pre ++ [c], upJ (newJ b.Exp) (leg k p b.A))
def runJ (k : Nat) (p : Int) (pre : List Constituent) (c : Constituent) : List Block → List Constituent
  | [] => pre ++ [c]
  | b :: r => runJ k p (stepJ k p pre c b).1 (stepJ k p pre c b).2 r
def validJ (p : Int) (e : Int) : List Block → Prop
  | [] => True
  | b :: r => e ≤ b.Exp ∧ b.Exp ≤ 60 ∧ okp p b ∧ validJ p b.Exp r

structure GJ (c : Constituent) (m : Int) : Prop where
  sign : c.Sign = 1 ∨ c.Sign = -1
  dim0 : 0 ≤ c.Dim
  dim1 : c.Dim ≤ m

theorem gj_up {c : Constituent} {m s : Int} (h : GJ c m) (hs : s = 1 ∨ s = -1) : GJ (upJ c s) (m + 1) := by
  obtain ⟨h1, h2, h3⟩ := h
  refine ⟨?_, by simp only [upJ]; omega, by simp only [upJ]; omega⟩
  rcases h1 with h1 | h1 <;> rcases hs with rfl | rfl <;> simp [upJ, h1]
theorem gj_new (e : Int) {m : Int} (h : 0 ≤ m) : GJ (newJ e) m := ⟨.inl rfl, Int.le_refl _, h⟩
theorem gj_mono {c : Constituent} {m m' : Int} (h : GJ c m) (hm : m ≤ m') : GJ c m' := ⟨h.1, h.2, Int.le_trans h.3 hm⟩

theorem sets (pre : List Constituent) (c d e : Constituent) (hl : pre.length < 1000) :
    List.set (List.set (pre ++ [c]) (IntKind.wrap .i64 (((pre ++ [c]).length : Int) - 1)).toNat d) (IntKind.wrap .i64 (((pre ++ [c]).length : Int) - 1)).toNat e = pre ++ [e] := by
  rw [set_last pre c d (by omega)]
  have : (pre ++ [c]).length = (pre ++ [d]).length := by simp
  rw [this, set_last pre d e (by omega)]

theorem wraps {c : Constituent} {m s : Int} (h : GJ c m) (hm : m ≤ 900) (hs : s = 1 ∨ s = -1) : IntKind.wrap .i64 (c.Dim + 1) = c.Dim + 1 ∧ IntKind.wrap .i64 (c.Sign * s) = c.Sign * s := by
  obtain ⟨h1, h2, h3⟩ := h
  refine ⟨wrap_id (by omega) (by omega), ?_⟩
  rcases h1 with h1 | h1 <;> rcases hs with rfl | rfl <;> rw [h1] <;> decide

theorem c0_J (k : Nat) (s0 s1) (v0 : Int) (v1 : List (List Int)) (v2 : List Block) (pre : List Constituent) (c : Constituent) (s : Int) (v5 : List Block) (v6 v7 m : Int) (hg : GJ c m) (hm : m ≤ 900) (hs : s = 1 ∨ s = -1) (hl : pre.length < 1000) :
    Fjordan_Constituents.c0 k s0 s1 v0 v1 v2 (pre ++ [c]) s v5 v6 v7 = s1 v0 v1 v2 (pre ++ [upJ c s]) v5 v6 (IntKind.wrap .i64 (v7 + 1)) := by
  obtain ⟨w1, w2⟩ := wraps hg hm hs
  unfold Fjordan_Constituents.c0
  rw [elt_last pre c (by omega), Option.bind_some, w1, w2, sets pre c _ _ hl]
  rfl

theorem drop_eltJ {α : Type} {L r : List α} {b : α} {n : Nat} (h : L.drop n = b :: r) : n < L.length ∧ elt L (n : Int) = some b ∧ L.drop (n + 1) = r ∧ L[n]? = some b := by
  have h1 : n < L.length := by
    have := congrArg List.length h
    simp at this; omega
  have h2 : L[n]? = some b := by
    have := List.getElem?_drop (xs := L) (i := n) (j := 0)
    rw [h] at this
    simpa using this.symm
  refine ⟨h1, by rw [elt_nat]; exact h2, ?_, h2⟩
  have : L.drop (n + 1) = (L.drop n).drop 1 := by rw [List.drop_drop]
  rw [this, h]; rfl
theorem drop_nilJ {α : Type} {L : List α} {n : Nat} (h : L.drop n = []) (h' : n ≤ L.length) : n = L.length := by
  have := List.drop_eq_nil_iff.1 h; omega

theorem block_eq (b : Block) : b = Block.mk b.Exp 1 b.A 0 0 ↔ b.Size = 1 ∧ b.B = 0 ∧ b.C = 0 := by
  cases b with
  | mk e s a b c => simp

open Fjordan_Constituents in
theorem l0b_J (k : Nat) (hk : 150 ≤ k) (p : Int) (hp : oddPrime p) (v1 : List (List Int)) (L : List Block) (hL : L.length ≤ 8) : ∀ (r : List Block) (j n : Nat) (pre : List Constituent) (c : Constituent) (q : Block),
    r.length < j → L.drop n = r → n ≤ L.length → 1 ≤ n → L[n - 1]? = some q → q.Exp = c.Exp → 0 ≤ c.Exp → GJ c n → pre.length ≤ n →
    l0b k j p v1 L (pre ++ [c]) L (L.length : Int) (n : Int) = if validJ p c.Exp r then some (.x1 (runJ k p pre c r)) else some (.ret ([], false)) := by
  intro r
  induction r with
  | nil =>
    intro j n pre c q hj hr hn h1 hq hqe h0 hg hl
    obtain ⟨j, rfl⟩ : ∃ i, j = i + 1 := ⟨j - 1, by simp at hj; omega⟩
    have hn' := drop_nilJ hr hn
    show l0b_b k (l0 k j) (l0b k j) _ _ _ _ _ _ _ = _
    unfold l0b_b
    rw [if_neg (by omega), if_pos (by simp [validJ])]
    rfl
  | cons b r ih =>
    intro j n pre c q hj hr hn h1 hq hqe h0 hg hl
    obtain ⟨j, rfl⟩ : ∃ i, j = i + 1 := ⟨j - 1, by simp at hj; omega⟩
    obtain ⟨g1, g2, g3, g4⟩ := drop_eltJ hr
    have p2 := hp.1; have p3 := hp.2.1
    show l0b_b k (l0 k j) (l0b k j) _ _ _ _ _ _ _ = _
    unfold l0b_b
    rw [if_pos (by omega), g2, Option.bind_some]
    by_cases hb : b.Size = 1 ∧ b.B = 0 ∧ b.C = 0
    case neg => rw [if_neg (fun h => hb ((block_eq b).1 h)), if_neg (by simp only [validJ, okp]; rintro ⟨-, -, h, -⟩; exact hb ⟨h.1, h.2.2⟩)]
    rw [if_pos ((block_eq b).2 hb)]
    by_cases e1 : b.Exp < 0
    · rw [if_pos e1, if_neg (by simp only [validJ]; omega)]
    rw [if_neg e1]
    by_cases e2 : b.Exp > 60
    · rw [if_pos e2, if_neg (by simp only [validJ]; omega)]
    rw [if_neg e2, if_pos (by omega)]
    have hw1 : IntKind.wrap .i64 ((n : Int) - 1) = ((n - 1 : Nat) : Int) := by rw [wrap_id (by omega) (by omega)]; omega
    rw [hw1, elt_nat, hq, Option.bind_some, hqe]
    by_cases e3 : b.Exp < c.Exp
    · rw [if_pos e3, if_neg (by simp only [validJ]; omega)]
    rw [if_neg e3, resJ k b.A p p2 p3, Option.bind_some]
    by_cases hA : b.A % p = 0
    · rw [symbol0 k hk p hp b.A hA, Option.bind_some, if_pos rfl, if_neg (by simp only [validJ, okp]; rintro ⟨-, -, h, -⟩; exact h.2.1 hA)]
    obtain ⟨l1, l2, l3⟩ := leg_spec k hk p hp b.A hA
    rw [l2, Option.bind_some, if_neg (by dsimp only; omega), if_neg (by omega)]
    have hw2 : IntKind.wrap .i64 ((n : Int) + 1) = ((n + 1 : Nat) : Int) := by rw [wrap_id (by omega) (by omega)]; omega
    have hv : validJ p c.Exp (b :: r) ↔ validJ p b.Exp r := by
      show (c.Exp ≤ b.Exp ∧ b.Exp ≤ 60 ∧ okp p b ∧ validJ p b.Exp r) ↔ _
      constructor
      · intro h; exact h.2.2.2
      · intro h; exact ⟨by omega, by omega, ⟨hb.1, hA, hb.2⟩, h⟩
    simp only [hv, runJ]
    by_cases e4 : b.Exp = c.Exp
    · rw [if_pos e4, c0_J k _ _ p v1 L pre c _ _ _ _ n hg (by omega) l1 (by omega), hw2]
      have hst : stepJ k p pre c b = (pre, upJ c (leg k p b.A)) := if_pos e4
      rw [hst]
      have := ih j (n + 1) pre (upJ c (leg k p b.A)) b (by simp at hj; omega) g3 (by omega) (by omega) (by simpa using g4) e4 h0 (by have := gj_up hg l1; simpa using this) (by omega)
      rw [show (upJ c (leg k p b.A)).Exp = b.Exp from e4.symm] at this
      exact this
    · have hln : (pre ++ [c]).length < 1073741824 := by simp; omega
      rw [if_neg e4, if_pos hln]
      have hst : stepJ k p pre c b = (pre ++ [c], upJ (newJ b.Exp) (leg k p b.A)) := if_neg e4
      rw [hst]
      have hc := c0_J k (l0 k j) (l0b k j) p v1 L (pre ++ [c]) (newJ b.Exp) (leg k p b.A) L (L.length : Int) (n : Int) n (gj_new _ (by omega)) (by omega) l1 (by simp; omega)
      rw [hw2] at hc
      refine hc.trans ?_
      exact ih j (n + 1) (pre ++ [c]) (upJ (newJ b.Exp) (leg k p b.A)) b (by simp at hj; omega) g3 (by omega) (by omega) (by simpa using g4) rfl (show 0 ≤ b.Exp by omega) (by have := gj_up (gj_new b.Exp (m := (n : Int)) (by omega)) l1; simpa using this) (by simp; omega)

def runLJ (k : Nat) (p : Int) : List Block → List Constituent
  | [] => []
  | b :: r => runJ k p [] (upJ (newJ b.Exp) (leg k p b.A)) r

open Fjordan_Constituents in
theorem l0_J (k : Nat) (hk : 150 ≤ k) (p : Int) (hp : oddPrime p) (v1 : List (List Int)) (b : Block) (r : List Block) (hL : (b :: r).length ≤ 8) (j : Nat) (hj : (b :: r).length < j) :
    l0 k j p v1 (b :: r) (b :: r) ((b :: r).length : Int) 0 = if validJ p 0 (b :: r) then some (.x1 (runLJ k p (b :: r))) else some (.ret ([], false)) := by
  obtain ⟨j, rfl⟩ : ∃ i, j = i + 1 := ⟨j - 1, by simp at hj; omega⟩
  have p2 := hp.1; have p3 := hp.2.1
  show l0_b k (l0 k j) (l0b k j) _ _ _ _ _ _ = _
  unfold l0_b
  rw [if_pos (by simp), show elt (b :: r) 0 = some b from rfl, Option.bind_some]
  by_cases hb : b.Size = 1 ∧ b.B = 0 ∧ b.C = 0
  case neg => rw [if_neg (fun h => hb ((block_eq b).1 h)), if_neg (by simp only [validJ, okp]; rintro ⟨-, -, h, -⟩; exact hb ⟨h.1, h.2.2⟩)]
  rw [if_pos ((block_eq b).2 hb)]
  by_cases e1 : b.Exp < 0
  · rw [if_pos e1, if_neg (by simp only [validJ]; omega)]
  rw [if_neg e1]
  by_cases e2 : b.Exp > 60
  · rw [if_pos e2, if_neg (by simp only [validJ]; omega)]
  rw [if_neg e2, if_neg (by omega), resJ k b.A p p2 p3, Option.bind_some]
  by_cases hA : b.A % p = 0
  · rw [symbol0 k hk p hp b.A hA, Option.bind_some, if_pos rfl, if_neg (by simp only [validJ, okp]; rintro ⟨-, -, h, -⟩; exact h.2.1 hA)]
  obtain ⟨l1, l2, l3⟩ := leg_spec k hk p hp b.A hA
  rw [l2, Option.bind_some, if_neg (by dsimp only; omega), if_pos rfl]
  have hc := c0_J k (l0 k j) (l0b k j) p v1 (b :: r) [] (newJ b.Exp) (leg k p b.A) (b :: r) ((b :: r).length : Int) 0 1 (gj_new _ (by omega)) (by omega) l1 (by simp)
  unfold c0 at hc
  refine hc.trans ?_
  have hv : validJ p 0 (b :: r) ↔ validJ p b.Exp r := by
    show (0 ≤ b.Exp ∧ b.Exp ≤ 60 ∧ okp p b ∧ validJ p b.Exp r) ↔ _
    constructor
    · intro h; exact h.2.2.2
    · intro h; exact ⟨by omega, by omega, ⟨hb.1, hA, hb.2⟩, h⟩
  simp only [hv, runLJ]
  exact l0b_J k hk p hp v1 (b :: r) hL r j 1 [] (upJ (newJ b.Exp) (leg k p b.A)) b (by simp at hj; omega) rfl (by simp) (by omega) rfl rfl (show 0 ≤ b.Exp by omega) (by have := gj_up (gj_new b.Exp (m := 0) (by omega)) l1; simpa using this) (by simp)

def meantJ (p : Int) (L : List Block) : Prop := oddPrime p ∧ L.length ≤ 8 ∧ 1 ≤ L.length ∧ validJ p 0 L

theorem progJ (k : Nat) (hk : 150 ≤ k) (p : Int) (v1 : List (List Int)) (L : List Block) :
    Fjordan_Constituents k p v1 L = some (if meantJ p L then (runLJ k p L, true) else ([], false)) := by
  unfold Fjordan_Constituents Fjordan_Constituents.b
  rw [odd_val k hk, Option.bind_some]
  by_cases hp : oddPrime p
  case neg => rw [if_neg (by simpa using hp), if_neg (fun h => hp h.1)]
  rw [if_pos (by simpa using hp)]
  by_cases l1 : (L.length : Int) < 1
  · rw [if_pos l1, if_neg (by unfold meantJ; omega)]
  rw [if_neg l1]
  by_cases l8 : (L.length : Int) > 8
  · rw [if_pos l8, if_neg (by unfold meantJ; omega)]
  rw [if_neg l8]
  cases L with
  | nil => simp at l1
  | cons b r =>
    rw [l0_J k hk p hp v1 b r (by omega) k (by omega)]
    by_cases hv : validJ p 0 (b :: r)
    · rw [if_pos hv, if_pos ⟨hp, by omega, by omega, hv⟩]; rfl
    · rw [if_neg hv, if_neg (fun h => hv h.2.2.2)]; rfl


theorem c0_L (k : Nat) (s0 s1) (v0 : Int) (v1 : List (List Int)) (v2 : List Block) (pre : List Constituent) (c : Constituent) (s : Int) (v5 : List Block) (v6 v7 m : Int) (hg : GJ c m) (hm : m ≤ 900) (hs : s = 1 ∨ s = -1) (hl : pre.length < 1000) :
    Fjordan_ConstituentsL.c3 k s0 s1 v0 v1 v2 (pre ++ [c]) s v5 v6 v7 = s1 v0 v1 v2 (pre ++ [upJ c s]) v5 v6 (IntKind.wrap .i64 (v7 + 1)) := by
  obtain ⟨w1, w2⟩ := wraps hg hm hs
  unfold Fjordan_ConstituentsL.c3
  rw [elt_last pre c (by omega), Option.bind_some, w1, w2, sets pre c _ _ hl]
  rfl

open Fjordan_ConstituentsL in
theorem l0b_L (k : Nat) (hk : 150 ≤ k) (p : Int) (hp : oddPrime p) (v1 : List (List Int)) (L : List Block) (hL : L.length ≤ 8) : ∀ (r : List Block) (j n : Nat) (pre : List Constituent) (c : Constituent) (q : Block),
    r.length < j → L.drop n = r → n ≤ L.length → 1 ≤ n → L[n - 1]? = some q → q.Exp = c.Exp → 0 ≤ c.Exp → GJ c n → pre.length ≤ n →
    l0b k j p v1 L (pre ++ [c]) L (L.length : Int) (n : Int) = if validJ p c.Exp r then some (.x1 (runJ k p pre c r)) else some (.ret (.s0 false)) := by
  intro r
  induction r with
  | nil =>
    intro j n pre c q hj hr hn h1 hq hqe h0 hg hl
    obtain ⟨j, rfl⟩ : ∃ i, j = i + 1 := ⟨j - 1, by simp at hj; omega⟩
    have hn' := drop_nilJ hr hn
    show l0b_b k (l0 k j) (l0b k j) _ _ _ _ _ _ _ = _
    unfold l0b_b c1 c2
    rw [if_neg (by omega), if_pos (by simp [validJ])]
    rfl
  | cons b r ih =>
    intro j n pre c q hj hr hn h1 hq hqe h0 hg hl
    obtain ⟨j, rfl⟩ : ∃ i, j = i + 1 := ⟨j - 1, by simp at hj; omega⟩
    obtain ⟨g1, g2, g3, g4⟩ := drop_eltJ hr
    have p2 := hp.1; have p3 := hp.2.1
    show l0b_b k (l0 k j) (l0b k j) _ _ _ _ _ _ _ = _
    unfold l0b_b c1 c2
    rw [if_pos (by omega), g2, Option.bind_some]
    by_cases hb : b.Size = 1 ∧ b.B = 0 ∧ b.C = 0
    case neg => rw [if_neg (fun h => hb ((block_eq b).1 h)), if_neg (by simp only [validJ, okp]; rintro ⟨-, -, h, -⟩; exact hb ⟨h.1, h.2.2⟩)]
    rw [if_pos ((block_eq b).2 hb)]
    by_cases e1 : b.Exp < 0
    · rw [if_pos e1, if_neg (by simp only [validJ]; omega)]
    rw [if_neg e1]
    by_cases e2 : b.Exp > 60
    · rw [if_pos e2, if_neg (by simp only [validJ]; omega)]
    rw [if_neg e2, if_pos (by omega)]
    have hw1 : IntKind.wrap .i64 ((n : Int) - 1) = ((n - 1 : Nat) : Int) := by rw [wrap_id (by omega) (by omega)]; omega
    rw [hw1, elt_nat, hq, Option.bind_some, hqe]
    by_cases e3 : b.Exp < c.Exp
    · rw [if_pos e3, if_neg (by simp only [validJ]; omega)]
    rw [if_neg e3, resJ k b.A p p2 p3, Option.bind_some]
    by_cases hA : b.A % p = 0
    · rw [symbol0 k hk p hp b.A hA, Option.bind_some, if_pos rfl, if_neg (by simp only [validJ, okp]; rintro ⟨-, -, h, -⟩; exact h.2.1 hA)]
    obtain ⟨l1, l2, l3⟩ := leg_spec k hk p hp b.A hA
    rw [l2, Option.bind_some, if_neg (by dsimp only; omega), if_neg (by omega)]
    have hw2 : IntKind.wrap .i64 ((n : Int) + 1) = ((n + 1 : Nat) : Int) := by rw [wrap_id (by omega) (by omega)]; omega
    have hv : validJ p c.Exp (b :: r) ↔ validJ p b.Exp r := by
      show (c.Exp ≤ b.Exp ∧ b.Exp ≤ 60 ∧ okp p b ∧ validJ p b.Exp r) ↔ _
      constructor
      · intro h; exact h.2.2.2
      · intro h; exact ⟨by omega, by omega, ⟨hb.1, hA, hb.2⟩, h⟩
    simp only [hv, runJ]
    by_cases e4 : b.Exp = c.Exp
    · rw [if_pos e4, c0_L k _ _ p v1 L pre c _ _ _ _ n hg (by omega) l1 (by omega), hw2]
      have hst : stepJ k p pre c b = (pre, upJ c (leg k p b.A)) := if_pos e4
      rw [hst]
      have := ih j (n + 1) pre (upJ c (leg k p b.A)) b (by simp at hj; omega) g3 (by omega) (by omega) (by simpa using g4) e4 h0 (by have := gj_up hg l1; simpa using this) (by omega)
      rw [show (upJ c (leg k p b.A)).Exp = b.Exp from e4.symm] at this
      exact this
    · have hln : (pre ++ [c]).length < 1073741824 := by simp; omega
      rw [if_neg e4, if_pos hln]
      have hst : stepJ k p pre c b = (pre ++ [c], upJ (newJ b.Exp) (leg k p b.A)) := if_neg e4
      rw [hst]
      have hc := c0_L k (l0 k j) (l0b k j) p v1 L (pre ++ [c]) (newJ b.Exp) (leg k p b.A) L (L.length : Int) (n : Int) n (gj_new _ (by omega)) (by omega) l1 (by simp; omega)
      rw [hw2] at hc
      refine hc.trans ?_
      exact ih j (n + 1) (pre ++ [c]) (upJ (newJ b.Exp) (leg k p b.A)) b (by simp at hj; omega) g3 (by omega) (by omega) (by simpa using g4) rfl (show 0 ≤ b.Exp by omega) (by have := gj_up (gj_new b.Exp (m := (n : Int)) (by omega)) l1; simpa using this) (by simp; omega)

open Fjordan_ConstituentsL in
theorem l0_L (k : Nat) (hk : 150 ≤ k) (p : Int) (hp : oddPrime p) (v1 : List (List Int)) (b : Block) (r : List Block) (hL : (b :: r).length ≤ 8) (j : Nat) (hj : (b :: r).length < j) :
    l0 k j p v1 (b :: r) (b :: r) ((b :: r).length : Int) 0 = if validJ p 0 (b :: r) then some (.x1 (runLJ k p (b :: r))) else some (.ret (.s0 false)) := by
  obtain ⟨j, rfl⟩ : ∃ i, j = i + 1 := ⟨j - 1, by simp at hj; omega⟩
  have p2 := hp.1; have p3 := hp.2.1
  show l0_b k (l0 k j) (l0b k j) _ _ _ _ _ _ = _
  unfold l0_b c1 c2
  rw [if_pos (by simp), show elt (b :: r) 0 = some b from rfl, Option.bind_some]
  by_cases hb : b.Size = 1 ∧ b.B = 0 ∧ b.C = 0
  case neg => rw [if_neg (fun h => hb ((block_eq b).1 h)), if_neg (by simp only [validJ, okp]; rintro ⟨-, -, h, -⟩; exact hb ⟨h.1, h.2.2⟩)]
  rw [if_pos ((block_eq b).2 hb)]
  by_cases e1 : b.Exp < 0
  · rw [if_pos e1, if_neg (by simp only [validJ]; omega)]
  rw [if_neg e1]
  by_cases e2 : b.Exp > 60
  · rw [if_pos e2, if_neg (by simp only [validJ]; omega)]
  rw [if_neg e2, if_neg (by omega), resJ k b.A p p2 p3, Option.bind_some]
  by_cases hA : b.A % p = 0
  · rw [symbol0 k hk p hp b.A hA, Option.bind_some, if_pos rfl, if_neg (by simp only [validJ, okp]; rintro ⟨-, -, h, -⟩; exact h.2.1 hA)]
  obtain ⟨l1, l2, l3⟩ := leg_spec k hk p hp b.A hA
  rw [l2, Option.bind_some, if_neg (by dsimp only; omega), if_pos rfl]
  have hc := c0_L k (l0 k j) (l0b k j) p v1 (b :: r) [] (newJ b.Exp) (leg k p b.A) (b :: r) ((b :: r).length : Int) 0 1 (gj_new _ (by omega)) (by omega) l1 (by simp)
  unfold c3 at hc
  refine hc.trans ?_
  have hv : validJ p 0 (b :: r) ↔ validJ p b.Exp r := by
    show (0 ≤ b.Exp ∧ b.Exp ≤ 60 ∧ okp p b ∧ validJ p b.Exp r) ↔ _
    constructor
    · intro h; exact h.2.2.2
    · intro h; exact ⟨by omega, by omega, ⟨hb.1, hA, hb.2⟩, h⟩
  simp only [hv, runLJ]
  exact l0b_L k hk p hp v1 (b :: r) hL r j 1 [] (upJ (newJ b.Exp) (leg k p b.A)) b (by simp at hj; omega) rfl (by simp) (by omega) rfl rfl (show 0 ≤ b.Exp by omega) (by have := gj_up (gj_new b.Exp (m := 0) (by omega)) l1; simpa using this) (by simp)

theorem progL (k : Nat) (hk : 150 ≤ k) (p : Int) (v1 : List (List Int)) (L : List Block) :
    Fjordan_ConstituentsL k p v1 L = some (if meantJ p L then .s1 (runLJ k p L) true else .s0 false) := by
  unfold Fjordan_ConstituentsL Fjordan_ConstituentsL.b Fjordan_ConstituentsL.c0
  rw [odd_val k hk, Option.bind_some]
  by_cases hp : oddPrime p
  case neg => rw [if_neg (by simpa using hp), if_neg (fun h => hp h.1)]
  rw [if_pos (by simpa using hp)]
  by_cases l1 : (L.length : Int) < 1
  · rw [if_pos l1, if_neg (by unfold meantJ; omega)]
  rw [if_neg l1]
  by_cases l8 : (L.length : Int) > 8
  · rw [if_pos l8, if_neg (by unfold meantJ; omega)]
  rw [if_neg l8]
  cases L with
  | nil => simp at l1
  | cons b r =>
    rw [l0_L k hk p hp v1 b r (by omega) k (by omega)]
    by_cases hv : validJ p 0 (b :: r)
    · rw [if_pos hv, if_pos ⟨hp, by omega, by omega, hv⟩]; rfl
    · rw [if_neg hv, if_neg (fun h => hv h.2.2.2)]; rfl


end Go.Cn
