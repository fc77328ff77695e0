/- Symbols: the excess, made symbols. -/
import Derived.Test.YteokapmkfoogaaaGreatDoorQu2
import Derived.Test.YteokapmkfoogaaaGreatDoorCk5
set_option linter.unusedVariables false
noncomputable section
open Classical
namespace Go.Cn

def fP (p : Int) (c : Constituent) : Int := if c.Exp % 2 = 0 then 0 else c.Dim * (p % 8 - 1) + (if c.Sign = -1 then 4 else 0)
def fsum (p : Int) : List Constituent → Int
  | [] => 0
  | c :: r => fP p c + fsum p r
theorem dim_mul {d x m : Int} (d0 : 1 ≤ d) (d8 : d ≤ 8) (x0 : 0 ≤ x) (xm : x ≤ m) : 0 ≤ d * x ∧ d * x ≤ 8 * m := ⟨Int.mul_nonneg (by omega) x0, Int.mul_le_mul d8 xm x0 (by decide)⟩

open Fsymbol_Excess in
theorem exP_loop (k : Nat) (p : Int) (hp : p % 2 = 1) (p0 : 0 ≤ p) (L : List Constituent) (hL : L.length ≤ 8) : ∀ (r : List Constituent) (j n : Nat) (s e : Int), r.length < j → L.drop n = r → n ≤ L.length → ascP e r → -1 ≤ e → 0 ≤ s → s ≤ 100 * n →
    Fsymbol_Excess.l0 k j p L s L (L.length : Int) (n : Int) = some (s + fsum p r) ∧ 0 ≤ fsum p r := by
  intro r
  induction r with
  | nil =>
    intro j n s e hj hr hn ha he s0 s1
    obtain ⟨j, rfl⟩ : ∃ i, j = i + 1 := ⟨j - 1, by simp at hj; omega⟩
    have hn' := drop_nilS hr hn
    refine ⟨?_, Int.le_refl _⟩
    show l0_b k (l0 k j) _ _ _ _ _ _ = _
    unfold l0_b
    rw [if_neg (by omega)]
    simp [fsum]
  | cons c r ih =>
    intro j n s e hj hr hn ha he s0 s1
    obtain ⟨j, rfl⟩ : ∃ i, j = i + 1 := ⟨j - 1, by simp at hj; omega⟩
    obtain ⟨g1, g2, g3, g4⟩ := drop_eltS hr
    simp only [List.length_cons] at hj
    simp only [ascP] at ha
    obtain ⟨a1, a2, a3, a4, a5, a6, a7⟩ := ha
    have hw2 : IntKind.wrap .i64 ((n : Int) + 1) = ((n + 1 : Nat) : Int) := by rw [wrap_id (by omega) (by omega)]; omega
    have htm : Int.tmod c.Exp 2 = c.Exp % 2 := Int.tmod_eq_emod_of_nonneg (by omega)
    have htp : Int.tmod p 8 = p % 8 := Int.tmod_eq_emod_of_nonneg p0
    have hx : 1 ≤ p % 8 ∧ p % 8 ≤ 7 := by omega
    obtain ⟨m1, m2⟩ := dim_mul (x := p % 8 - 1) (m := 6) a3 a4 (by omega) (by omega)
    have w1 : IntKind.wrap .i64 (p % 8 - 1) = p % 8 - 1 := wrap_id (by omega) (by omega)
    have w2 : IntKind.wrap .i64 (c.Dim * (p % 8 - 1)) = c.Dim * (p % 8 - 1) := wrap_id (by omega) (by omega)
    have w3 : IntKind.wrap .i64 (s + c.Dim * (p % 8 - 1)) = s + c.Dim * (p % 8 - 1) := wrap_id (by omega) (by omega)
    have w4 : IntKind.wrap .i64 (s + c.Dim * (p % 8 - 1) + 4) = s + c.Dim * (p % 8 - 1) + 4 := wrap_id (by omega) (by omega)
    have hf0 : 0 ≤ fP p c := by
      unfold fP
      by_cases h : c.Exp % 2 = 0
      · rw [if_pos h]; exact Int.le_refl _
      · rw [if_neg h]
        by_cases hs : c.Sign = -1
        · rw [if_pos hs]; omega
        · rw [if_neg hs]; omega
    show l0_b k (l0 k j) _ _ _ _ _ _ = _ ∧ _
    unfold l0_b
    rw [if_pos (by omega), g2, Option.bind_some, htm, htp, w1, w2, w3, w4, hw2]
    simp only [fsum]
    by_cases h0 : c.Exp % 2 = 0
    · obtain ⟨k1, k2⟩ := ih j (n + 1) s c.Exp (by omega) g3 (by omega) a7 (by omega) s0 (by omega)
      have : fP p c = 0 := if_pos h0
      rw [if_pos h0, k1, this, Int.zero_add]
      exact ⟨rfl, k2⟩
    rw [if_neg h0]
    by_cases hs : c.Sign = -1
    · obtain ⟨k1, k2⟩ := ih j (n + 1) (s + c.Dim * (p % 8 - 1) + 4) c.Exp (by omega) g3 (by omega) a7 (by omega) (by omega) (by omega)
      have : fP p c = c.Dim * (p % 8 - 1) + 4 := by unfold fP; rw [if_neg h0, if_pos hs]
      rw [if_pos hs, k1, this]
      refine ⟨by congr 1; omega, by omega⟩
    · obtain ⟨k1, k2⟩ := ih j (n + 1) (s + c.Dim * (p % 8 - 1)) c.Exp (by omega) g3 (by omega) a7 (by omega) (by omega) (by omega)
      have : fP p c = c.Dim * (p % 8 - 1) := by unfold fP; rw [if_neg h0, if_neg hs, Int.add_zero]
      rw [if_neg hs, k1, this]
      refine ⟨by congr 1; omega, by omega⟩

theorem u8sym {n : Int} (h : okI .u8 n) : 0 ≤ n ∧ n ≤ 255 := by
  have e1 : IntKind.min .u8 = 0 := rfl
  have e2 : IntKind.max .u8 = 255 := rfl
  have h1 := h.1; have h2 := h.2
  omega

theorem asc_bounds : ∀ {M : List Constituent} {y : Int}, ascP y M → ∀ c ∈ M, y < c.Exp ∧ c.Exp ≤ 60
  | [], _, _, c, hc => by simp at hc
  | d :: M, y, h, c, hc => by
    simp only [ascP] at h
    rcases List.mem_cons.1 hc with rfl | hc
    · exact ⟨h.1, h.2.1⟩
    · have := asc_bounds h.2.2.2.2.2.2 c hc
      exact ⟨by omega, this.2⟩

theorem asc_snoc (z : Constituent) (h60 : z.Exp ≤ 60) (hz : 1 ≤ z.Dim ∧ z.Dim ≤ 8 ∧ signed z ∧ bare z) : ∀ {M : List Constituent} {y : Int}, ascP y M → (∀ m ∈ M, m.Exp < z.Exp) → y < z.Exp → ascP y (M ++ [z])
  | [], y, _, _, hy => by simp only [List.nil_append, ascP]; exact ⟨hy, h60, hz.1, hz.2.1, hz.2.2.1, hz.2.2.2, trivial⟩
  | m :: M, y, h, hb, hy => by
    simp only [List.cons_append, ascP] at h ⊢
    exact ⟨h.1, h.2.1, h.2.2.1, h.2.2.2.1, h.2.2.2.2.1, h.2.2.2.2.2.1, asc_snoc z h60 hz h.2.2.2.2.2.2 (fun x hx => hb x (by simp [hx])) (hb m (by simp))⟩

theorem dims_app : ∀ (L M : List Constituent), dims (L ++ M) = dims L + dims M
  | [], M => by simp [dims]
  | c :: L, M => by simp only [List.cons_append, dims, dims_app L M]; omega
open Fquadformref24_SameList in
theorem same_loopS (k : Nat) (L : List Constituent) (hL : L.length < 1000) : ∀ (r : List Constituent) (j n : Nat), r.length < j → L.drop n = r → n ≤ L.length → Fquadformref24_SameList.l0 k j L L (L.length : Int) (n : Int) = some .x0 := by
  intro r
  induction r with
  | nil =>
    intro j n hj hr hn
    obtain ⟨j, rfl⟩ : ∃ i, j = i + 1 := ⟨j - 1, by simp at hj; omega⟩
    have hn' := drop_nilS hr hn
    show l0_b k (l0 k j) _ _ _ _ = _
    unfold l0_b
    rw [if_neg (by omega)]
  | cons b r ih =>
    intro j n hj hr hn
    obtain ⟨j, rfl⟩ : ∃ i, j = i + 1 := ⟨j - 1, by simp at hj; omega⟩
    obtain ⟨g1, g2, g3, g4⟩ := drop_eltS hr
    show l0_b k (l0 k j) _ _ _ _ = _
    unfold l0_b
    have hw2 : IntKind.wrap .i64 ((n : Int) + 1) = ((n + 1 : Nat) : Int) := by rw [wrap_id (by omega) (by omega)]; omega
    rw [if_pos (by omega), g2, Option.bind_some, Option.bind_some, if_pos rfl, hw2]
    exact ih j (n + 1) (by simp at hj; omega) g3 (by omega)

theorem same_selfS (k : Nat) (L : List Constituent) (hL : L.length < 1000) (hk : L.length < k) : Fquadformref24_SameList k L L = some true := by
  unfold Fquadformref24_SameList Fquadformref24_SameList.b
  rw [if_pos rfl]
  have := same_loopS k L hL L k 0 hk rfl (by omega)
  have e0 : ((0 : Nat) : Int) = 0 := rfl
  rw [e0] at this
  rw [this]
  rfl


theorem same_sym (k : Nat) (p : Int) (L : List Constituent) (hL : L.length < 1000) (hk : L.length < k) : Fquadformref26_Same k p L p L = some true := by
  unfold Fquadformref26_Same Fquadformref26_Same.b
  rw [if_pos rfl, same_selfS k L hL hk]
  rfl

theorem cons_val (k : Nat) (a b c d e x m : Int) (hb : 0 ≤ b ∧ b ≤ 255) (hc : 0 ≤ c ∧ c ≤ 255) (hm : 1 ≤ m) (hm' : m ≤ 100) :
    ∃ t s, Fquadformscene_constituent k a b c d e x m false = some (x, t, s, false, 0) ∧ 1 ≤ t ∧ t ≤ m ∧ t ≤ 3 ∧ (s = 1 ∨ s = -1) := by
  unfold Fquadformscene_constituent Fquadformscene_constituent.b
  obtain ⟨t, ht⟩ : ∃ t, t = (if m < (3 : Int) then m else (3 : Int)) := ⟨_, rfl⟩
  have h1 : 1 ≤ t ∧ t ≤ m ∧ t ≤ 3 := by rw [ht]; split <;> omega
  have wb : IntKind.wrap .i64 b = b := wrap_id (by omega) (by omega)
  have hmod : Int.tmod b t = b % t := Int.tmod_eq_emod_of_nonneg hb.1
  have hmc : Int.tmod c 2 = c % 2 := Int.tmod_eq_emod_of_nonneg hc.1
  have g0 := Int.emod_nonneg b (show t ≠ 0 by omega)
  have g1 := Int.emod_lt_of_pos b (show 0 < t by omega)
  have w1 : IntKind.wrap .i64 (1 + b % t) = 1 + b % t := wrap_id (by omega) (by omega)
  have w2 : IntKind.wrap .i64 (c % 2) = c % 2 := wrap_id (by omega) (by omega)
  have w3 : IntKind.wrap .i64 (2 * (c % 2)) = 2 * (c % 2) := wrap_id (by omega) (by omega)
  have w4 : IntKind.wrap .i64 (1 - 2 * (c % 2)) = 1 - 2 * (c % 2) := wrap_id (by omega) (by omega)
  simp only [← ht, wb, hmod, hmc, w1, w2, w3, w4]
  rw [if_pos (by omega), if_neg (by simp)]
  exact ⟨_, _, rfl, by omega, by omega, by omega, by omega⟩

/-- a list that is being made -/
structure Mk8 (out : List Constituent) (x s : Int) : Prop where
  asc : ascP (-1) out
  top : ∀ c ∈ out, c.Exp ≤ x
  sum : dims out = s
  low : -1 ≤ x
  high : x + 1 ≤ 3 * out.length
  pos : (out.length : Int) ≤ s

theorem mk8_snoc {out : List Constituent} {x s x' t g : Int} (h : Mk8 out x s) (hx : x < x') (hx' : x' ≤ x + 3) (ht : 1 ≤ t) (ht' : t ≤ 3) (hg : g = 1 ∨ g = -1) (hs : s + t ≤ 8) : Mk8 (out ++ [Constituent.mk x' t g false 0]) x' (s + t) := by
  obtain ⟨h1, h2, h3, h4, h5, h6⟩ := h
  refine ⟨asc_snoc (Constituent.mk x' t g false 0) (by show x' ≤ 60; omega) ⟨ht, by show t ≤ 8; omega, hg, rfl, rfl⟩ h1 (fun m hm => ?_) (by show -1 < x'; omega), fun c hc => ?_, ?_, by omega, by simp; omega, by simp; omega⟩
  · have := h2 m hm
    show m.Exp < x'
    omega
  · rcases List.mem_append.1 hc with hc | hc
    · have := h2 c hc; omega
    · simp at hc; subst hc; exact Int.le_refl _
  · rw [dims_app, h3]; simp [dims]

theorem step_exp8 {x a : Int} (hx : -1 ≤ x) (hx' : x ≤ 100) (ha : 0 ≤ a ∧ a ≤ 255) : ∃ d, IntKind.wrap .i64 (x + (IntKind.wrap .i64 ((1 : Int) + (Int.tmod (Int.tmod (IntKind.wrap .i64 a) (4 : Int)) (3 : Int))))) = d ∧ x < d ∧ d ≤ x + 3 := by
  have w1 : IntKind.wrap .i64 a = a := wrap_id (by omega) (by omega)
  have w2 : Int.tmod a 4 = a % 4 := Int.tmod_eq_emod_of_nonneg ha.1
  have w3 : Int.tmod (a % 4) 3 = a % 4 % 3 := Int.tmod_eq_emod_of_nonneg (by omega)
  have w4 : IntKind.wrap .i64 (1 + a % 4 % 3) = 1 + a % 4 % 3 := wrap_id (by omega) (by omega)
  have w5 : IntKind.wrap .i64 (x + (1 + a % 4 % 3)) = x + (1 + a % 4 % 3) := wrap_id (by omega) (by omega)
  rw [w1, w2, w3, w4, w5]
  exact ⟨_, rfl, by omega, by omega⟩

open Fquadformscene_Symbol__list in
theorem list_loop8 (k : Nat) (M : Int) (hM : 1 ≤ M) (hM8 : M ≤ 8) (D : List A5u8) (hD : D.length ≤ 100) (hok : ∀ a ∈ D, ok_A5u8 a) : ∀ (r : List A5u8) (j n : Nat) (out : List Constituent) (x s : Int), r.length < j → D.drop n = r → n ≤ D.length → 1 ≤ out.length → s ≤ M → Mk8 out x s →
    ∃ o x' t, Fquadformscene_Symbol__list.l0b k j out M false x s D (D.length : Int) (n : Int) = some (.x1 o false t) ∧ 1 ≤ o.length ∧ t ≤ M ∧ Mk8 o x' t := by
  intro r
  induction r with
  | nil =>
    intro j n out x s hj hr hn ho s8 hm
    obtain ⟨j, rfl⟩ : ∃ i, j = i + 1 := ⟨j - 1, by simp at hj; omega⟩
    have hn' := drop_nilS hr hn
    refine ⟨out, x, s, ?_, ho, s8, hm⟩
    show l0b_b k (l0 k j) (l0b k j) _ _ _ _ _ _ _ _ = _
    unfold l0b_b
    rw [if_neg (by omega)]
  | cons b r ih =>
    intro j n out x s hj hr hn ho s8 hm
    obtain ⟨j, rfl⟩ : ∃ i, j = i + 1 := ⟨j - 1, by simp at hj; omega⟩
    obtain ⟨g1, g2, g3, g4⟩ := drop_eltS hr
    simp only [List.length_cons] at hj
    have hb := hok b (List.mem_of_getElem? g4)
    have hw2 : IntKind.wrap .i64 ((n : Int) + 1) = ((n + 1 : Nat) : Int) := by rw [wrap_id (by omega) (by omega)]; omega
    show ∃ o x' t, l0b_b k (l0 k j) (l0b k j) _ _ _ _ _ _ _ _ = _ ∧ _
    unfold l0b_b
    rw [if_pos (by omega), g2, Option.bind_some]
    by_cases hs : s ≥ M
    · rw [if_pos hs]; exact ⟨out, x, s, rfl, ho, s8, hm⟩
    have hl := hm.low; have hh := hm.high; have hpos := hm.pos
    have hw3 : IntKind.wrap .i64 (M - s) = M - s := wrap_id (by omega) (by omega)
    obtain ⟨d, hd, d1, d2⟩ := step_exp8 (x := x) (a := b.x0) hl (by omega) (u8sym hb.1)
    rw [if_neg hs, hw3, hd]
    obtain ⟨t, g, hq, q1, q2, q3, q4⟩ := cons_val k b.x0 b.x1 b.x2 b.x3 b.x4 d (M - s) (u8sym hb.2.1) (u8sym hb.2.2.1) (by omega) (by omega)
    have hw4 : IntKind.wrap .i64 (s + t) = s + t := wrap_id (by omega) (by omega)
    rw [hq, Option.bind_some, if_pos (by omega)]
    dsimp only
    rw [hw4, hw2]
    exact ih j (n + 1) _ d (s + t) (by omega) g3 (by omega) (by simp) (by omega) (mk8_snoc hm d1 d2 q1 q3 q4 (by omega))

open Fquadformscene_Symbol__list in
theorem list_val8 (k : Nat) (M : Int) (hM : 1 ≤ M) (hM8 : M ≤ 8) (pr : Int) (D : List A5u8) (hD : D.length ≤ 100) (hok : ∀ a ∈ D, ok_A5u8 a) (hk : D.length + 5 < k) : ∃ o x t, Fquadformscene_Symbol__list k pr D M false = some o ∧ 1 ≤ o.length ∧ t ≤ M ∧ Mk8 o x t := by
  unfold Fquadformscene_Symbol__list Fquadformscene_Symbol__list.b
  obtain ⟨j, rfl⟩ : ∃ i, k = i + 1 := ⟨k - 1, by omega⟩
  have h1 : l0 (j + 1) (j + 1) M false (-1) 0 D (D.length : Int) 0 = l0_b (j + 1) (l0 (j + 1) j) (l0b (j + 1) j) M false (-1) 0 D (D.length : Int) 0 := rfl
  rw [h1]
  unfold l0_b
  have m0 : Mk8 [] (-1) 0 := ⟨trivial, fun c hc => absurd hc (by simp), rfl, by omega, by simp, by simp⟩
  cases D with
  | nil =>
    obtain ⟨t, g, hq, q1, q2, q3, q4⟩ := cons_val (j + 1) 0 0 0 0 0 0 1 (by omega) (by omega) (by omega) (by omega)
    refine ⟨[Constituent.mk 0 t g false 0], 0, 0 + t, ?_, by simp, by omega, mk8_snoc m0 (by omega) (by omega) q1 q3 q4 (by omega)⟩
    rw [if_neg (by simp)]
    show Fquadformscene_Symbol__list.c0 (j + 1) false 0 = _
    unfold Fquadformscene_Symbol__list.c0
    rw [if_pos rfl, hq]
    rfl
  | cons b r =>
    have hb := hok b (by simp)
    have hw3 : IntKind.wrap .i64 (M - 0) = M := by rw [Int.sub_zero]; exact wrap_id (by omega) (by omega)
    obtain ⟨d, hd, d1, d2⟩ := step_exp8 (x := -1) (a := b.x0) (by omega) (by omega) (u8sym hb.1)
    have hw2 : IntKind.wrap .i64 (0 + 1) = ((1 : Nat) : Int) := rfl
    obtain ⟨t, g, hq, q1, q2, q3, q4⟩ := cons_val (j + 1) b.x0 b.x1 b.x2 b.x3 b.x4 d M (u8sym hb.2.1) (u8sym hb.2.2.1) (by omega) (by omega)
    have hw4 : IntKind.wrap .i64 (0 + t) = 0 + t := wrap_id (by omega) (by omega)
    rw [if_pos (by simp), show elt (b :: r) 0 = some b from rfl, Option.bind_some, if_neg (by omega), hw3, hd, hq, Option.bind_some, hw2]
    dsimp only
    rw [hw4]
    obtain ⟨o, x', t', ho, h1, h2, h3⟩ := list_loop8 (j + 1) M hM hM8 (b :: r) hD hok r j 1 [Constituent.mk d t g false 0] d (0 + t) (by simp at hk; omega) rfl (by simp) (by simp) (by omega) (mk8_snoc m0 d1 d2 q1 q3 q4 (by omega))
    rw [ho]
    refine ⟨o, x', t', ?_, h1, h2, h3⟩
    show Fquadformscene_Symbol__list.c1 (j + 1) o false t' = _
    unfold Fquadformscene_Symbol__list.c1
    have := h3.pos
    rw [if_neg (by omega)]

theorem oddPrime_val8 (k : Nat) (a : Int) (h0 : 0 ≤ a) : ∃ q, Fquadformscene_OddPrime k a = some q ∧ oddPrime q := by
  have small : ∀ q : Int, 2 < q → q ≤ 23 → (∀ e : Int, (e = 2 ∨ e = 3 ∨ e = 4) → e * e ≤ q → ¬ q % e = 0) → oddPrime q := by
    intro q q1 q2 h
    refine ⟨q1, by omega, ?_⟩
    rintro ⟨e, h1, h2, h3⟩
    have he : e ≤ 4 := by
      rcases Int.lt_or_le 4 e with hh | hh
      · have := sq_le (d := 5) (m := e) (by decide) (by omega)
        omega
      · exact hh
    exact h e (by omega) h2 h3
  unfold Fquadformscene_OddPrime Fquadformscene_OddPrime.b
  rw [Int.tmod_eq_emod_of_nonneg h0]
  have h1 : a % 8 = 0 ∨ a % 8 = 1 ∨ a % 8 = 2 ∨ a % 8 = 3 ∨ a % 8 = 4 ∨ a % 8 = 5 ∨ a % 8 = 6 ∨ a % 8 = 7 := by omega
  rcases h1 with h | h | h | h | h | h | h | h <;> rw [h]
  · exact ⟨3, rfl, small 3 (by decide) (by decide) (by rintro e (rfl | rfl | rfl) <;> decide)⟩
  · exact ⟨5, rfl, small 5 (by decide) (by decide) (by rintro e (rfl | rfl | rfl) <;> decide)⟩
  · exact ⟨7, rfl, small 7 (by decide) (by decide) (by rintro e (rfl | rfl | rfl) <;> decide)⟩
  · exact ⟨11, rfl, small 11 (by decide) (by decide) (by rintro e (rfl | rfl | rfl) <;> decide)⟩
  · exact ⟨13, rfl, small 13 (by decide) (by decide) (by rintro e (rfl | rfl | rfl) <;> decide)⟩
  · exact ⟨17, rfl, small 17 (by decide) (by decide) (by rintro e (rfl | rfl | rfl) <;> decide)⟩
  · exact ⟨19, rfl, small 19 (by decide) (by decide) (by rintro e (rfl | rfl | rfl) <;> decide)⟩
  · exact ⟨23, rfl, small 23 (by decide) (by decide) (by rintro e (rfl | rfl | rfl) <;> decide)⟩

theorem local_val8 (k : Nat) (M : Int) (hM : 1 ≤ M) (hM8 : M ≤ 8) (pr : Int) (hp : okI .u8 pr) : ∃ q, oddPrime q ∧ ∀ (D : List A5u8), D.length ≤ 100 → (∀ a ∈ D, ok_A5u8 a) → D.length + 5 < k → ∃ o, Fquadformscene_Symbol__Local k pr D M = some (q, o) ∧ symP q o ∧ dims o ≤ M := by
  obtain ⟨q, hq, hodd⟩ := oddPrime_val8 k pr (u8sym hp).1
  refine ⟨q, hodd, fun D hD hok hk => ?_⟩
  unfold Fquadformscene_Symbol__Local Fquadformscene_Symbol__Local.b
  obtain ⟨o, x, t, ho, h1, h2, h3⟩ := list_val8 k M hM hM8 pr D hD hok hk
  rw [hq, Option.bind_some, ho]
  have hpos := h3.pos; have hh := h3.high
  exact ⟨o, rfl, ⟨hodd, h1, by omega, h3.asc, by rw [h3.sum]; omega⟩, by rw [h3.sum]; exact h2⟩

theorem either_some (k : Nat) (p : Int) (L : List Constituent) (pr : Int) (D : List A5u8) (made : Bool) (hL : L.length ≤ 20) (hp : okI .u8 pr) (hD : D.length ≤ 20) (hok : ∀ a ∈ D, ok_A5u8 a) (hk : 100 ≤ k) : ∃ q o, Fquadformlaw26_either k p L pr D made = some (q, o) ∧ o.length ≤ 20 := by
  unfold Fquadformlaw26_either Fquadformlaw26_either.b
  cases made
  · rw [if_neg (by simp)]; exact ⟨p, L, rfl, by omega⟩
  · rw [if_pos rfl]
    obtain ⟨q, _, h⟩ := local_val8 k 5 (by decide) (by decide) pr hp
    obtain ⟨o, ho, hs, _⟩ := h D (by omega) hok (by omega)
    rw [ho]
    exact ⟨q, o, rfl, by have := hs.2.2.1; omega⟩

theorem exP_val (k : Nat) (hk : 150 ≤ k) (p : Int) (L : List Constituent) (h : symP p L) : Fsymbol_Excess k p L = some (fsum p L % 8, 0) := by
  unfold Fsymbol_Excess Fsymbol_Excess.b
  rw [validP_val k hk, Option.bind_some, if_pos (by simpa using h)]
  have hp := odd_odd h.1
  have := exP_loop k p hp (by have := h.1.1; omega) L h.2.2.1 L k 0 0 (-1) (by have := h.2.2.1; omega) rfl (by omega) h.2.2.2.1 (by omega) (by omega) (by omega)
  have e0 : ((0 : Nat) : Int) = 0 := rfl
  rw [e0, Int.zero_add] at this
  rw [this.1]
  show Fsymbol_Excess.c0 k (fsum p L) = _
  unfold Fsymbol_Excess.c0
  rw [Int.tmod_eq_emod_of_nonneg this.2]

end Go.Cn
