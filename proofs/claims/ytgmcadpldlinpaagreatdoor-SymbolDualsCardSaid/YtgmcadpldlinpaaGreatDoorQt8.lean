/- The plain law of SymbolDuals. -/
import Derived.Test.YtgmcadpldlinpaaGreatDoorQt7
set_option linter.unusedVariables false
noncomputable section
open Classical
namespace Go.Cn

theorem cons_val (k : Nat) (a b c d e x m : Int) (hb : 0 ≤ b ∧ b ≤ 255) (hc : 0 ≤ c ∧ c ≤ 255) (hm : 1 ≤ m) (hm' : m ≤ 100) :
    ∃ t s, Fquadformscene_constituent k a b c d e x m false = some (x, t, s, false, 0) ∧ 1 ≤ t ∧ t ≤ m ∧ t ≤ 3 ∧ (s = 1 ∨ s = -1) := by
  unfold Fquadformscene_constituent Fquadformscene_constituent.b
  obtain ⟨t, ht⟩ : ∃ t, t = (if m < (3 : Int) then m else (3 : Int)) := ⟨_, rfl⟩
  have h1 : 1 ≤ t ∧ t ≤ m ∧ t ≤ 3 := by rw [ht]; split <;> omega
  have wb : IntKind.wrap .i64 b = b := wrap_id (by omega) (by omega)
  have hmod : Int.tmod b t = b % t := Int.tmod_eq_emod_of_nonneg hb.1
  have hmc : Int.tmod c 2 = c % 2 := Int.tmod_eq_emod_of_nonneg hc.1
  have g0 := Int.emod_nonneg b (show t ≠ 0 by omega)
  have g1 := Int.emod_lt_of_pos b (show 0 < t by omega)
  have w1 : IntKind.wrap .i64 (1 + b % t) = 1 + b % t := wrap_id (by omega) (by omega)
  have w2 : IntKind.wrap .i64 (c % 2) = c % 2 := wrap_id (by omega) (by omega)
  have w3 : IntKind.wrap .i64 (2 * (c % 2)) = 2 * (c % 2) := wrap_id (by omega) (by omega)
  have w4 : IntKind.wrap .i64 (1 - 2 * (c % 2)) = 1 - 2 * (c % 2) := wrap_id (by omega) (by omega)
  simp only [← ht, wb, hmod, hmc, w1, w2, w3, w4]
  rw [if_pos (by omega), if_neg (by simp)]
  exact ⟨_, _, rfl, by omega, by omega, by omega, by omega⟩

/-- a list that is being made -/
structure Mk8 (out : List Constituent) (x s : Int) : Prop where
  asc : ascP (-1) out
  top : ∀ c ∈ out, c.Exp ≤ x
  sum : dims out = s
  low : -1 ≤ x
  high : x + 1 ≤ 3 * out.length
  pos : (out.length : Int) ≤ s

theorem mk8_snoc {out : List Constituent} {x s x' t g : Int} (h : Mk8 out x s) (hx : x < x') (hx' : x' ≤ x + 3) (ht : 1 ≤ t) (ht' : t ≤ 3) (hg : g = 1 ∨ g = -1) (hs : s + t ≤ 8) : Mk8 (out ++ [Constituent.mk x' t g false 0]) x' (s + t) := by
  obtain ⟨h1, h2, h3, h4, h5, h6⟩ := h
  refine ⟨asc_snoc (Constituent.mk x' t g false 0) (by show x' ≤ 60; omega) ⟨ht, by show t ≤ 8; omega, hg, rfl, rfl⟩ h1 (fun m hm => ?_) (by show -1 < x'; omega), fun c hc => ?_, ?_, by omega, by simp; omega, by simp; omega⟩
  · have := h2 m hm
    show m.Exp < x'
    omega
  · rcases List.mem_append.1 hc with hc | hc
    · have := h2 c hc; omega
    · simp at hc; subst hc; exact Int.le_refl _
  · rw [dims_app, h3]; simp [dims]

theorem step_exp8 {x a : Int} (hx : -1 ≤ x) (hx' : x ≤ 100) (ha : 0 ≤ a ∧ a ≤ 255) : ∃ d, IntKind.wrap .i64 (x + (IntKind.wrap .i64 ((1 : Int) + (Int.tmod (Int.tmod (IntKind.wrap .i64 a) (4 : Int)) (3 : Int))))) = d ∧ x < d ∧ d ≤ x + 3 := by
  have w1 : IntKind.wrap .i64 a = a := wrap_id (by omega) (by omega)
  have w2 : Int.tmod a 4 = a % 4 := Int.tmod_eq_emod_of_nonneg ha.1
  have w3 : Int.tmod (a % 4) 3 = a % 4 % 3 := Int.tmod_eq_emod_of_nonneg (by omega)
  have w4 : IntKind.wrap .i64 (1 + a % 4 % 3) = 1 + a % 4 % 3 := wrap_id (by omega) (by omega)
  have w5 : IntKind.wrap .i64 (x + (1 + a % 4 % 3)) = x + (1 + a % 4 % 3) := wrap_id (by omega) (by omega)
  rw [w1, w2, w3, w4, w5]
  exact ⟨_, rfl, by omega, by omega⟩

open Fquadformscene_Symbol__list in
theorem list_loop8 (k : Nat) (D : List A5u8) (hD : D.length ≤ 100) (hok : ∀ a ∈ D, ok_A5u8 a) : ∀ (r : List A5u8) (j n : Nat) (out : List Constituent) (x s : Int), r.length < j → D.drop n = r → n ≤ D.length → 1 ≤ out.length → s ≤ 8 → Mk8 out x s →
    ∃ o x' t, Fquadformscene_Symbol__list.l0b k j out 8 false x s D (D.length : Int) (n : Int) = some (.x1 o false t) ∧ 1 ≤ o.length ∧ t ≤ 8 ∧ Mk8 o x' t := by
  intro r
  induction r with
  | nil =>
    intro j n out x s hj hr hn ho s8 hm
    obtain ⟨j, rfl⟩ : ∃ i, j = i + 1 := ⟨j - 1, by simp at hj; omega⟩
    have hn' := drop_nilS hr hn
    refine ⟨out, x, s, ?_, ho, s8, hm⟩
    show l0b_b k (l0 k j) (l0b k j) _ _ _ _ _ _ _ _ = _
    unfold l0b_b
    rw [if_neg (by omega)]
  | cons b r ih =>
    intro j n out x s hj hr hn ho s8 hm
    obtain ⟨j, rfl⟩ : ∃ i, j = i + 1 := ⟨j - 1, by simp at hj; omega⟩
    obtain ⟨g1, g2, g3, g4⟩ := drop_eltS hr
    simp only [List.length_cons] at hj
    have hb := hok b (List.mem_of_getElem? g4)
    have hw2 : IntKind.wrap .i64 ((n : Int) + 1) = ((n + 1 : Nat) : Int) := by rw [wrap_id (by omega) (by omega)]; omega
    show ∃ o x' t, l0b_b k (l0 k j) (l0b k j) _ _ _ _ _ _ _ _ = _ ∧ _
    unfold l0b_b
    rw [if_pos (by omega), g2, Option.bind_some]
    by_cases hs : s ≥ 8
    · rw [if_pos hs]; exact ⟨out, x, s, rfl, ho, s8, hm⟩
    have hl := hm.low; have hh := hm.high; have hpos := hm.pos
    have hw3 : IntKind.wrap .i64 (8 - s) = 8 - s := wrap_id (by omega) (by omega)
    obtain ⟨d, hd, d1, d2⟩ := step_exp8 (x := x) (a := b.x0) hl (by omega) (u8sym hb.1)
    rw [if_neg hs, hw3, hd]
    obtain ⟨t, g, hq, q1, q2, q3, q4⟩ := cons_val k b.x0 b.x1 b.x2 b.x3 b.x4 d (8 - s) (u8sym hb.2.1) (u8sym hb.2.2.1) (by omega) (by omega)
    have hw4 : IntKind.wrap .i64 (s + t) = s + t := wrap_id (by omega) (by omega)
    rw [hq, Option.bind_some, if_pos (by omega)]
    dsimp only
    rw [hw4, hw2]
    exact ih j (n + 1) _ d (s + t) (by omega) g3 (by omega) (by simp) (by omega) (mk8_snoc hm d1 d2 q1 q3 q4 (by omega))

open Fquadformscene_Symbol__list in
theorem list_val8 (k : Nat) (pr : Int) (D : List A5u8) (hD : D.length ≤ 100) (hok : ∀ a ∈ D, ok_A5u8 a) (hk : D.length + 5 < k) : ∃ o x t, Fquadformscene_Symbol__list k pr D 8 false = some o ∧ 1 ≤ o.length ∧ t ≤ 8 ∧ Mk8 o x t := by
  unfold Fquadformscene_Symbol__list Fquadformscene_Symbol__list.b
  obtain ⟨j, rfl⟩ : ∃ i, k = i + 1 := ⟨k - 1, by omega⟩
  have h1 : l0 (j + 1) (j + 1) 8 false (-1) 0 D (D.length : Int) 0 = l0_b (j + 1) (l0 (j + 1) j) (l0b (j + 1) j) 8 false (-1) 0 D (D.length : Int) 0 := rfl
  rw [h1]
  unfold l0_b
  have m0 : Mk8 [] (-1) 0 := ⟨trivial, fun c hc => absurd hc (by simp), rfl, by omega, by simp, by simp⟩
  cases D with
  | nil =>
    obtain ⟨t, g, hq, q1, q2, q3, q4⟩ := cons_val (j + 1) 0 0 0 0 0 0 1 (by omega) (by omega) (by omega) (by omega)
    refine ⟨[Constituent.mk 0 t g false 0], 0, 0 + t, ?_, by simp, by omega, mk8_snoc m0 (by omega) (by omega) q1 q3 q4 (by omega)⟩
    rw [if_neg (by simp)]
    show Fquadformscene_Symbol__list.c0 (j + 1) false 0 = _
    unfold Fquadformscene_Symbol__list.c0
    rw [if_pos rfl, hq]
    rfl
  | cons b r =>
    have hb := hok b (by simp)
    have hw3 : IntKind.wrap .i64 (8 - 0) = 8 := by decide
    obtain ⟨d, hd, d1, d2⟩ := step_exp8 (x := -1) (a := b.x0) (by omega) (by omega) (u8sym hb.1)
    have hw2 : IntKind.wrap .i64 (0 + 1) = ((1 : Nat) : Int) := rfl
    obtain ⟨t, g, hq, q1, q2, q3, q4⟩ := cons_val (j + 1) b.x0 b.x1 b.x2 b.x3 b.x4 d 8 (u8sym hb.2.1) (u8sym hb.2.2.1) (by omega) (by omega)
    have hw4 : IntKind.wrap .i64 (0 + t) = 0 + t := wrap_id (by omega) (by omega)
    rw [if_pos (by simp), show elt (b :: r) 0 = some b from rfl, Option.bind_some, if_neg (by omega), hw3, hd, hq, Option.bind_some, hw2]
    dsimp only
    rw [hw4]
    obtain ⟨o, x', t', ho, h1, h2, h3⟩ := list_loop8 (j + 1) (b :: r) hD hok r j 1 [Constituent.mk d t g false 0] d (0 + t) (by simp at hk; omega) rfl (by simp) (by simp) (by omega) (mk8_snoc m0 d1 d2 q1 q3 q4 (by omega))
    rw [ho]
    refine ⟨o, x', t', ?_, h1, h2, h3⟩
    show Fquadformscene_Symbol__list.c1 (j + 1) o false t' = _
    unfold Fquadformscene_Symbol__list.c1
    have := h3.pos
    rw [if_neg (by omega)]

theorem oddPrime_val8 (k : Nat) (a : Int) (h0 : 0 ≤ a) : ∃ q, Fquadformscene_OddPrime k a = some q ∧ oddPrime q := by
  have small : ∀ q : Int, 2 < q → q ≤ 23 → (∀ e : Int, (e = 2 ∨ e = 3 ∨ e = 4) → e * e ≤ q → ¬ q % e = 0) → oddPrime q := by
    intro q q1 q2 h
    refine ⟨q1, by omega, ?_⟩
    rintro ⟨e, h1, h2, h3⟩
    have he : e ≤ 4 := by
      rcases Int.lt_or_le 4 e with hh | hh
      · have := sq_le (d := 5) (m := e) (by decide) (by omega)
        omega
      · exact hh
    exact h e (by omega) h2 h3
  unfold Fquadformscene_OddPrime Fquadformscene_OddPrime.b
  rw [Int.tmod_eq_emod_of_nonneg h0]
  have h1 : a % 8 = 0 ∨ a % 8 = 1 ∨ a % 8 = 2 ∨ a % 8 = 3 ∨ a % 8 = 4 ∨ a % 8 = 5 ∨ a % 8 = 6 ∨ a % 8 = 7 := by omega
  rcases h1 with h | h | h | h | h | h | h | h <;> rw [h]
  · exact ⟨3, rfl, small 3 (by decide) (by decide) (by rintro e (rfl | rfl | rfl) <;> decide)⟩
  · exact ⟨5, rfl, small 5 (by decide) (by decide) (by rintro e (rfl | rfl | rfl) <;> decide)⟩
  · exact ⟨7, rfl, small 7 (by decide) (by decide) (by rintro e (rfl | rfl | rfl) <;> decide)⟩
  · exact ⟨11, rfl, small 11 (by decide) (by decide) (by rintro e (rfl | rfl | rfl) <;> decide)⟩
  · exact ⟨13, rfl, small 13 (by decide) (by decide) (by rintro e (rfl | rfl | rfl) <;> decide)⟩
  · exact ⟨17, rfl, small 17 (by decide) (by decide) (by rintro e (rfl | rfl | rfl) <;> decide)⟩
  · exact ⟨19, rfl, small 19 (by decide) (by decide) (by rintro e (rfl | rfl | rfl) <;> decide)⟩
  · exact ⟨23, rfl, small 23 (by decide) (by decide) (by rintro e (rfl | rfl | rfl) <;> decide)⟩

theorem local_val8 (k : Nat) (pr : Int) (D : List A5u8) (hp : okI .u8 pr) (hD : D.length ≤ 100) (hok : ∀ a ∈ D, ok_A5u8 a) (hk : D.length + 5 < k) : ∃ q o, Fquadformscene_Symbol__Local k pr D 8 = some (q, o) ∧ symP q o ∧ ∀ c ∈ o, c.Exp ≤ 23 := by
  unfold Fquadformscene_Symbol__Local Fquadformscene_Symbol__Local.b
  obtain ⟨q, hq, hodd⟩ := oddPrime_val8 k pr (u8sym hp).1
  obtain ⟨o, x, t, ho, h1, h2, h3⟩ := list_val8 k pr D hD hok hk
  rw [hq, Option.bind_some, ho]
  have hpos := h3.pos; have hh := h3.high
  exact ⟨q, o, rfl, ⟨hodd, h1, by omega, h3.asc, by rw [h3.sum]; exact h2⟩, fun c hc => by have := h3.top c hc; omega⟩

theorem flip_flip (e : Int) (L : List Constituent) : ((L.reverse.map (flip e)).reverse.map (flip e)) = L := by
  rw [← List.map_reverse, List.reverse_reverse, List.map_map]
  have : flip e ∘ flip e = id := by
    funext c
    show mv (e - (e - c.Exp)) (mv (e - c.Exp) c) = c
    simp only [mv]
    have : e - (e - c.Exp) = c.Exp := by omega
    rw [this]
  rw [this, List.map_id]
theorem shift_back (e : Int) (L : List Constituent) : ((L.map (shift e)).map (shift (0 - e))) = L := by
  rw [List.map_map]
  have : shift (0 - e) ∘ shift e = id := by
    funext c
    show mv (c.Exp + e + (0 - e)) (mv (c.Exp + e) c) = c
    simp only [mv]
    have : c.Exp + e + (0 - e) = c.Exp := by omega
    rw [this]
  rw [this, List.map_id]

/-- The plain law. -/
theorem lawDuals (p0_Prime : Int) (p0_Parts : List A5u8) (p1 : Int) (h1 : okI .u8 p0_Prime) (h2 : okL ok_A5u8 p0_Parts) (h3 : okI .u8 p1) :
    Fquadformlaw26_SymbolDuals 300 p0_Prime p0_Parts p1 = some true := by
  unfold Fquadformlaw26_SymbolDuals Fquadformlaw26_SymbolDuals.b
  by_cases l2 : (p0_Parts.length : Int) > 20
  · rw [if_pos l2]; rfl
  rw [if_neg l2]
  obtain ⟨q, o, ho, hs, ht⟩ := local_val8 300 p0_Prime p0_Parts h1 (by omega) h2.2 (by omega)
  have hu := u8sym h3
  have hb := sym_exp hs
  have n1 := hs.2.1; have n8 := hs.2.2.1
  obtain ⟨n, hn⟩ : ∃ n, o.length = n + 1 := ⟨o.length - 1, by omega⟩
  have hw : IntKind.wrap .i64 ((o.length : Int) - 1) = (n : Int) := by rw [wrap_id (by omega) (by omega)]; omega
  have wk : IntKind.wrap .i64 p1 = p1 := wrap_id (by omega) (by omega)
  have wm : Int.tmod p1 30 = p1 % 30 := Int.tmod_eq_emod_of_nonneg hu.1
  obtain ⟨m, hm⟩ : ∃ m, m = p1 % 30 := ⟨_, rfl⟩
  have hm0 : 0 ≤ m ∧ m < 30 := by omega
  obtain ⟨z, hz⟩ : ∃ z, z = o[n] := ⟨_, rfl⟩
  have hz1 := hb z (by rw [hz]; exact List.getElem_mem _)
  have hz2 := ht z (by rw [hz]; exact List.getElem_mem _)
  have wz : IntKind.wrap .i64 (z.Exp + m) = z.Exp + m := wrap_id (by omega) (by omega)
  have wn : IntKind.wrap .i64 (0 - m) = 0 - m := wrap_id (by omega) (by omega)
  rw [ho, Option.bind_some]
  dsimp only
  rw [hw, elt_nat, List.getElem?_eq_getElem (by omega), Option.bind_some, ← hz, wk, wm, ← hm, wz, wn]
  -- the last is the greatest
  have hlast : ∀ c ∈ o, c.Exp ≤ z.Exp := by
    have gen : ∀ (L : List Constituent) (y : Int), ascP y L → ∀ (i : Nat) (hi : i < L.length) (hl : L.length - 1 < L.length), L[i].Exp ≤ (L[L.length - 1]).Exp := by
      intro L
      induction L with
      | nil => intro y h i hi; simp at hi
      | cons c r ih =>
        intro y h i hi hl
        simp only [ascP] at h
        cases r with
        | nil => 
          have : i = 0 := by simp at hi; omega
          subst this
          exact Int.le_refl _
        | cons d r =>
          have hlast := ih c.Exp h.2.2.2.2.2.2 0 (by simp) (by simp)
          have hd := asc_bounds h.2.2.2.2.2.2 d (by simp)
          have e1 : (c :: d :: r)[(c :: d :: r).length - 1] = (d :: r)[(d :: r).length - 1] := by simp
          rw [e1]
          cases i with
          | zero => 
            show c.Exp ≤ _
            have : (d :: r)[0] = d := rfl
            rw [this] at hlast
            omega
          | succ i => exact ih c.Exp h.2.2.2.2.2.2 i (by simpa using hi) (by simp)
    intro c hc
    obtain ⟨i, hi, rfl⟩ := List.mem_iff_getElem.1 hc
    have := gen o (-1) hs.2.2.2.1 i hi (by omega)
    have e : o[o.length - 1] = o[n] := by congr 1; omega
    rw [e, ← hz] at this
    exact this
  have f1 : fitD (z.Exp + m) o := fun c hc => by
    have a1 := hlast c hc; have a2 := hb c hc
    omega
  have s1 : symP q (o.reverse.map (flip (z.Exp + m))) := (sym_flip hs).2 f1
  have f2 : fitD (z.Exp + m) (o.reverse.map (flip (z.Exp + m))) := fun c hc => by
    obtain ⟨d, hd, rfl⟩ := List.mem_map.1 hc
    have a2 := hb d (by simpa using hd)
    show 0 ≤ z.Exp + m - (z.Exp + m - d.Exp) ∧ z.Exp + m - (z.Exp + m - d.Exp) ≤ 60
    omega
  have f3 : fitS m o := fun c hc => by
    have a1 := ht c hc; have a2 := hb c hc
    omega
  have s3 : symP q (o.map (shift m)) := (sym_shift hs).2 f3
  have f4 : fitS (0 - m) (o.map (shift m)) := fun c hc => by
    obtain ⟨d, hd, rfl⟩ := List.mem_map.1 hc
    have a2 := hb d hd
    show 0 ≤ d.Exp + m + (0 - m) ∧ d.Exp + m + (0 - m) ≤ 60
    omega
  rw [dualP 300 (by decide) q (z.Exp + m) (by omega) o, if_pos hs, if_pos f1, Option.bind_some]
  dsimp only
  rw [dualP 300 (by decide) q (z.Exp + m) (by omega) _, if_pos s1, if_pos f2, Option.bind_some, scaleP 300 (by decide) q m (by omega) o, if_pos hs, if_pos f3, Option.bind_some]
  dsimp only
  rw [scaleP 300 (by decide) q (0 - m) (by omega) _, if_pos s3, if_pos f4, Option.bind_some]
  dsimp only
  rw [if_pos rfl, if_pos rfl, if_pos rfl, if_pos rfl, flip_flip, shift_back, same_sym 300 _ _ (by omega) (by omega), Option.bind_some, if_pos rfl, Option.bind_some, if_pos rfl]
  rfl

end Go.Cn
