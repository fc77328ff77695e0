/- Symbols that are made: odd and raw ones. -/
import Derived.Test.YtgbijhccgmmkgabGreatDoorTf13m0
import Derived.Test.YtgbijhccgmmkgabGreatDoorTa3
set_option linter.unusedVariables false
noncomputable section
open Classical
namespace Go.Cn

theorem u8sym {n : Int} (h : okI .u8 n) : 0 ≤ n ∧ n ≤ 255 := by
  have e1 : IntKind.min .u8 = 0 := rfl
  have e2 : IntKind.max .u8 = 255 := rfl
  have h1 := h.1; have h2 := h.2
  omega

def oddOk (d s y : Int) : Prop := 0 ≤ y ∧ y ≤ 7 ∧ (y - d) % 2 = 0 ∧ (d = 1 → (s = 1 → y = 1 ∨ y = 7) ∧ (s = -1 → y = 3 ∨ y = 5)) ∧ (d = 2 → (s = 1 → y ≠ 4) ∧ (s = -1 → y ≠ 0))
instance (d s y : Int) : Decidable (oddOk d s y) := by unfold oddOk; infer_instance

/-- the oddity's walk, from k modulo 8 on -/
def oddAt (k : Nat) (d s t : Int) : Option Int := if (Int.tmod (IntKind.wrap .i64 ((IntKind.wrap .i64 t) - d)) (2 : Int)) = (0 : Int) then (F23.c0 k d s (IntKind.wrap .i64 t)) else (F23.c0 k d s (Int.tmod (IntKind.wrap .i64 ((IntKind.wrap .i64 t) + (1 : Int))) (8 : Int)))
theorem oddAt_val (k : Nat) (d s t : Int) (hd : d = 1 ∨ d = 2 ∨ d = 3) (hs : s = 1 ∨ s = -1) (ht : t = 0 ∨ t = 1 ∨ t = 2 ∨ t = 3 ∨ t = 4 ∨ t = 5 ∨ t = 6 ∨ t = 7) : ∃ y, oddAt k d s t = some y ∧ oddOk d s y := by
  rcases hd with rfl | rfl | rfl <;> rcases hs with rfl | rfl <;> rcases ht with rfl | rfl | rfl | rfl | rfl | rfl | rfl | rfl
  · exact ⟨1, by kernel_rfl, by decide⟩
  · exact ⟨1, by kernel_rfl, by decide⟩
  · exact ⟨7, by kernel_rfl, by decide⟩
  · exact ⟨7, by kernel_rfl, by decide⟩
  · exact ⟨1, by kernel_rfl, by decide⟩
  · exact ⟨1, by kernel_rfl, by decide⟩
  · exact ⟨7, by kernel_rfl, by decide⟩
  · exact ⟨7, by kernel_rfl, by decide⟩
  · exact ⟨5, by kernel_rfl, by decide⟩
  · exact ⟨5, by kernel_rfl, by decide⟩
  · exact ⟨3, by kernel_rfl, by decide⟩
  · exact ⟨3, by kernel_rfl, by decide⟩
  · exact ⟨5, by kernel_rfl, by decide⟩
  · exact ⟨5, by kernel_rfl, by decide⟩
  · exact ⟨3, by kernel_rfl, by decide⟩
  · exact ⟨3, by kernel_rfl, by decide⟩
  · exact ⟨0, by kernel_rfl, by decide⟩
  · exact ⟨2, by kernel_rfl, by decide⟩
  · exact ⟨2, by kernel_rfl, by decide⟩
  · exact ⟨2, by kernel_rfl, by decide⟩
  · exact ⟨2, by kernel_rfl, by decide⟩
  · exact ⟨6, by kernel_rfl, by decide⟩
  · exact ⟨6, by kernel_rfl, by decide⟩
  · exact ⟨0, by kernel_rfl, by decide⟩
  · exact ⟨2, by kernel_rfl, by decide⟩
  · exact ⟨2, by kernel_rfl, by decide⟩
  · exact ⟨2, by kernel_rfl, by decide⟩
  · exact ⟨4, by kernel_rfl, by decide⟩
  · exact ⟨4, by kernel_rfl, by decide⟩
  · exact ⟨6, by kernel_rfl, by decide⟩
  · exact ⟨6, by kernel_rfl, by decide⟩
  · exact ⟨2, by kernel_rfl, by decide⟩
  · exact ⟨1, by kernel_rfl, by decide⟩
  · exact ⟨1, by kernel_rfl, by decide⟩
  · exact ⟨3, by kernel_rfl, by decide⟩
  · exact ⟨3, by kernel_rfl, by decide⟩
  · exact ⟨5, by kernel_rfl, by decide⟩
  · exact ⟨5, by kernel_rfl, by decide⟩
  · exact ⟨7, by kernel_rfl, by decide⟩
  · exact ⟨7, by kernel_rfl, by decide⟩
  · exact ⟨1, by kernel_rfl, by decide⟩
  · exact ⟨1, by kernel_rfl, by decide⟩
  · exact ⟨3, by kernel_rfl, by decide⟩
  · exact ⟨3, by kernel_rfl, by decide⟩
  · exact ⟨5, by kernel_rfl, by decide⟩
  · exact ⟨5, by kernel_rfl, by decide⟩
  · exact ⟨7, by kernel_rfl, by decide⟩
  · exact ⟨7, by kernel_rfl, by decide⟩

theorem oddity_val (k : Nat) (d s e : Int) (hd : 1 ≤ d ∧ d ≤ 3) (hs : s = 1 ∨ s = -1) (he : 0 ≤ e ∧ e ≤ 255) : ∃ y, F23 k d s e = some y ∧ oddOk d s y := by
  have ht : Int.tmod e 8 = e % 8 := Int.tmod_eq_emod_of_nonneg he.1
  have := oddAt_val k d s (e % 8) (by omega) hs (by omega)
  rw [← ht] at this
  exact this

theorem cons_any (k : Nat) (a b c d e x m : Int) (two : Bool) (hb : 0 ≤ b ∧ b ≤ 255) (hc : 0 ≤ c ∧ c ≤ 255) (hd : 0 ≤ d ∧ d ≤ 255) (he : 0 ≤ e ∧ e ≤ 255) (hm : 1 ≤ m) (hm' : m ≤ 100) :
    ∃ t s o y, F21 k a b c d e x m two = some (x, t, s, o, y) ∧ 1 ≤ t ∧ t ≤ m ∧ t ≤ 3 ∧ (s = 1 ∨ s = -1) ∧ (two = false → o = false ∧ y = 0) ∧ (two = true → 0 ≤ x → x ≤ 60 → legalS ⟨x, t, s, o, y⟩) := by
  unfold F21 F21.b
  obtain ⟨t, ht⟩ : ∃ t, t = (if m < (3 : Int) then m else (3 : Int)) := ⟨_, rfl⟩
  have h1 : 1 ≤ t ∧ t ≤ m ∧ t ≤ 3 := by rw [ht]; split <;> omega
  have wb : IntKind.wrap .i64 b = b := uc5 (by omega) (by omega)
  have hmod : Int.tmod b t = b % t := Int.tmod_eq_emod_of_nonneg hb.1
  have hmc : Int.tmod c 2 = c % 2 := Int.tmod_eq_emod_of_nonneg hc.1
  have hmd : Int.tmod d 3 = d % 3 := Int.tmod_eq_emod_of_nonneg hd.1
  have g0 := Int.emod_nonneg b (show t ≠ 0 by omega)
  have g1 := Int.emod_lt_of_pos b (show 0 < t by omega)
  have w1 : IntKind.wrap .i64 (1 + b % t) = 1 + b % t := uc5 (by omega) (by omega)
  have w2 : IntKind.wrap .i64 (c % 2) = c % 2 := uc5 (by omega) (by omega)
  have w3 : IntKind.wrap .i64 (2 * (c % 2)) = 2 * (c % 2) := uc5 (by omega) (by omega)
  have w4 : IntKind.wrap .i64 (1 - 2 * (c % 2)) = 1 - 2 * (c % 2) := uc5 (by omega) (by omega)
  simp only [← ht, wb, hmod, hmc, hmd, w1, w2, w3, w4]
  obtain ⟨D, hD⟩ : ∃ D, D = 1 + b % t := ⟨_, rfl⟩
  obtain ⟨S, hS⟩ : ∃ S, S = 1 - 2 * (c % 2) := ⟨_, rfl⟩
  have hDb : 1 ≤ D ∧ D ≤ 3 ∧ D ≤ m := by omega
  have hSb : S = 1 ∨ S = -1 := by omega
  rw [← hD, ← hS]
  have htm : Int.tmod D 2 = D % 2 := Int.tmod_eq_emod_of_nonneg (by omega)
  rw [htm, if_pos (by omega)]
  obtain ⟨y, hy, q1, q2, q3, q4, q5⟩ := oddity_val k D S e ⟨by omega, by omega⟩ hSb he
  cases two with
  | false =>
    rw [if_neg (by decide)]
    exact ⟨D, S, false, 0, rfl, by omega, by omega, by omega, hSb, fun _ => ⟨rfl, rfl⟩, fun h => absurd h (by decide)⟩
  | true =>
    rw [if_pos rfl]
    by_cases ho : D % 2 = 1
    · rw [if_pos ho, hy]
      exact ⟨D, S, true, y, rfl, by omega, by omega, by omega, hSb, fun h => absurd h (by decide), fun _ x0 x1 => (up1 x D S y).2 ⟨x0, x1, by omega, by omega, hSb, q1, q2, q3, q4, q5⟩⟩
    · rw [if_neg ho]
      by_cases h3 : d % 3 > 0
      · rw [if_pos h3, hy, decide_eq_true h3]
        exact ⟨D, S, true, y, rfl, by omega, by omega, by omega, hSb, fun h => absurd h (by decide), fun _ x0 x1 => (up1 x D S y).2 ⟨x0, x1, by omega, by omega, hSb, q1, q2, q3, q4, q5⟩⟩
      · rw [if_neg h3, decide_eq_false h3]
        exact ⟨D, S, false, 0, rfl, by omega, by omega, by omega, hSb, fun h => absurd h (by decide), fun _ x0 x1 => (legalS_even x D S 0).2 ⟨x0, x1, by omega, by omega, hSb, by omega, by omega, by omega, rfl⟩⟩

/-- a list that is being made -/
structure MkA (two : Bool) (out : List ua0) (x s : Int) : Prop where
  asc : ascR (-1) 0 out
  top : ∀ c ∈ out, c.Exp ≤ x
  sum : dims out = s
  low : -1 ≤ x
  high : x + 1 ≤ 3 * out.length
  pos : (out.length : Int) ≤ s
  odd : two = false → ∀ c ∈ out, bare c
  two : two = true → ∀ c ∈ out, legalS c

theorem mkA_snoc {two : Bool} {out : List ua0} {x s x' t g y : Int} {o : Bool} (h : MkA two out x s) (hx : x < x') (hx' : x' ≤ x + 3) (ht : 1 ≤ t) (ht' : t ≤ 3) (hg : g = 1 ∨ g = -1) (hs : s + t ≤ 8)
    (h1 : two = false → o = false ∧ y = 0) (h2 : two = true → 0 ≤ x' → x' ≤ 60 → legalS ⟨x', t, g, o, y⟩) : MkA two (out ++ [ua0.mk x' t g o y]) x' (s + t) := by
  obtain ⟨a1, a2, a3, a4, a5, a6, a7, a8⟩ := h
  refine ⟨ascR_snoc (ua0.mk x' t g o y) (by show x' ≤ 60; omega) hg ht a1 (fun m hm => ?_) (by show -1 < x'; omega) (by show t ≤ _; omega), fun c hc => ?_, ?_, by omega, by simp; omega, by simp; omega, fun e c hc => ?_, fun e c hc => ?_⟩
  · have := a2 m hm
    show m.Exp < x'
    omega
  · rcases List.mem_append.1 hc with hc | hc
    · have := a2 c hc; omega
    · simp at hc; subst hc; exact Int.le_refl _
  · rw [dims_snoc, a3]
  · rcases List.mem_append.1 hc with hc | hc
    · exact a7 e c hc
    · simp at hc; subst hc; exact h1 e
  · rcases List.mem_append.1 hc with hc | hc
    · exact a8 e c hc
    · simp at hc; subst hc; exact h2 e (by omega) (by omega)

theorem step_expA {x a : Int} (hx : -1 ≤ x) (hx' : x ≤ 100) (ha : 0 ≤ a ∧ a ≤ 255) : ∃ d, IntKind.wrap .i64 (x + (IntKind.wrap .i64 ((1 : Int) + (Int.tmod (Int.tmod (IntKind.wrap .i64 a) (4 : Int)) (3 : Int))))) = d ∧ x < d ∧ d ≤ x + 3 := by
  have w1 : IntKind.wrap .i64 a = a := uc5 (by omega) (by omega)
  have w2 : Int.tmod a 4 = a % 4 := Int.tmod_eq_emod_of_nonneg ha.1
  have w3 : Int.tmod (a % 4) 3 = a % 4 % 3 := Int.tmod_eq_emod_of_nonneg (by omega)
  have w4 : IntKind.wrap .i64 (1 + a % 4 % 3) = 1 + a % 4 % 3 := uc5 (by omega) (by omega)
  have w5 : IntKind.wrap .i64 (x + (1 + a % 4 % 3)) = x + (1 + a % 4 % 3) := uc5 (by omega) (by omega)
  rw [w1, w2, w3, w4, w5]
  exact ⟨_, rfl, by omega, by omega⟩

open F19 in
theorem list_loopA (k : Nat) (M : Int) (hM : 1 ≤ M) (hM8 : M ≤ 8) (two : Bool) (D : List A5u8) (hD : D.length ≤ 100) (hok : ∀ a ∈ D, up9 a) : ∀ (r : List A5u8) (j n : Nat) (out : List ua0) (x s : Int), r.length < j → D.drop n = r → n ≤ D.length → 1 ≤ out.length → s ≤ M → MkA two out x s →
    ∃ o x' t, l0b k j out M two x s D (D.length : Int) (n : Int) = some (.x1 o two t) ∧ 1 ≤ o.length ∧ t ≤ M ∧ MkA two o x' t := by
  intro r
  induction r with
  | nil =>
    intro j n out x s hj hr hn ho s8 hm
    obtain ⟨j, rfl⟩ : ∃ i, j = i + 1 := ⟨j - 1, by simp at hj; omega⟩
    have hn' := uh1 hr hn
    refine ⟨out, x, s, ?_, ho, s8, hm⟩
    show l0b_b k (l0 k j) (l0b k j) _ _ _ _ _ _ _ _ = _
    unfold l0b_b
    rw [if_neg (by omega)]
  | cons b r ih =>
    intro j n out x s hj hr hn ho s8 hm
    obtain ⟨j, rfl⟩ : ∃ i, j = i + 1 := ⟨j - 1, by simp at hj; omega⟩
    obtain ⟨g1, g2, g3, g4⟩ := ue8 hr
    simp only [List.length_cons] at hj
    have hb := hok b (List.mem_of_getElem? g4)
    show ∃ o x' t, l0b_b k (l0 k j) (l0b k j) _ _ _ _ _ _ _ _ = _ ∧ _
    unfold l0b_b
    rw [if_pos (by omega), g2, Option.bind_some]
    by_cases hs : s ≥ M
    · rw [if_pos hs]; exact ⟨out, x, s, rfl, ho, s8, hm⟩
    have hl := hm.low; have hh := hm.high; have hpos := hm.pos
    have hw3 : IntKind.wrap .i64 (M - s) = M - s := uc5 (by omega) (by omega)
    obtain ⟨d, hd, d1, d2⟩ := step_expA (x := x) (a := b.x0) hl (by omega) (u8sym hb.1)
    rw [if_neg hs, hw3, hd]
    obtain ⟨t, g, o, y, hq, q1, q2, q3, q4, q5, q6⟩ := cons_any k b.x0 b.x1 b.x2 b.x3 b.x4 d (M - s) two (u8sym hb.2.1) (u8sym hb.2.2.1) (u8sym hb.2.2.2.1) (u8sym hb.2.2.2.2) (by omega) (by omega)
    have hw4 : IntKind.wrap .i64 (s + t) = s + t := uc5 (by omega) (by omega)
    rw [hq, Option.bind_some, if_pos (by omega)]
    dsimp only
    rw [hw4, uc8 (by omega)]
    exact ih j (n + 1) _ d (s + t) (by omega) g3 (by omega) (by simp) (by omega) (mkA_snoc hm d1 d2 q1 q3 q4 (by omega) q5 q6)

open F19 in
theorem list_valA (k : Nat) (M : Int) (hM : 1 ≤ M) (hM8 : M ≤ 8) (two : Bool) (pr : Int) (D : List A5u8) (hD : D.length ≤ 100) (hok : ∀ a ∈ D, up9 a) (hk : D.length + 5 < k) : ∃ o x t, F19 k pr D M two = some o ∧ 1 ≤ o.length ∧ t ≤ M ∧ MkA two o x t := by
  unfold F19 F19.b
  obtain ⟨j, rfl⟩ : ∃ i, k = i + 1 := ⟨k - 1, by omega⟩
  have h1 : l0 (j + 1) (j + 1) M two (-1) 0 D (D.length : Int) 0 = l0_b (j + 1) (l0 (j + 1) j) (l0b (j + 1) j) M two (-1) 0 D (D.length : Int) 0 := rfl
  rw [h1]
  unfold l0_b
  have m0 : MkA two [] (-1) 0 := ⟨trivial, fun c hc => absurd hc (by simp), rfl, by omega, by simp, by simp, fun _ c hc => absurd hc (by simp), fun _ c hc => absurd hc (by simp)⟩
  cases D with
  | nil =>
    obtain ⟨t, g, o, y, hq, q1, q2, q3, q4, q5, q6⟩ := cons_any (j + 1) 0 0 0 0 0 0 1 two (by omega) (by omega) (by omega) (by omega) (by omega) (by omega)
    refine ⟨[ua0.mk 0 t g o y], 0, 0 + t, ?_, by simp, by omega, mkA_snoc m0 (by omega) (by omega) q1 q3 q4 (by omega) q5 q6⟩
    rw [if_neg (by simp)]
    show F19.c0 (j + 1) two 0 = _
    unfold F19.c0
    rw [if_pos rfl, hq]
    rfl
  | cons b r =>
    have hb := hok b (by simp)
    have hw3 : IntKind.wrap .i64 (M - 0) = M := by rw [Int.sub_zero]; exact uc5 (by omega) (by omega)
    obtain ⟨d, hd, d1, d2⟩ := step_expA (x := -1) (a := b.x0) (by omega) (by omega) (u8sym hb.1)
    have hw2 : IntKind.wrap .i64 (0 + 1) = ((1 : Nat) : Int) := rfl
    obtain ⟨t, g, o, y, hq, q1, q2, q3, q4, q5, q6⟩ := cons_any (j + 1) b.x0 b.x1 b.x2 b.x3 b.x4 d M two (u8sym hb.2.1) (u8sym hb.2.2.1) (u8sym hb.2.2.2.1) (u8sym hb.2.2.2.2) (by omega) (by omega)
    have hw4 : IntKind.wrap .i64 (0 + t) = 0 + t := uc5 (by omega) (by omega)
    rw [if_pos (by simp), show elt (b :: r) 0 = some b from rfl, Option.bind_some, if_neg (by omega), hw3, hd, hq, Option.bind_some, hw2]
    dsimp only
    rw [hw4]
    obtain ⟨o', x', t', ho, h1, h2, h3⟩ := list_loopA (j + 1) M hM hM8 two (b :: r) hD hok r j 1 [ua0.mk d t g o y] d (0 + t) (by simp at hk; omega) rfl (by simp) (by simp) (by omega) (mkA_snoc m0 d1 d2 q1 q3 q4 (by omega) q5 q6)
    rw [ho]
    refine ⟨o', x', t', ?_, h1, h2, h3⟩
    show F19.c1 (j + 1) o' two t' = _
    unfold F19.c1
    have := h3.pos
    rw [if_neg (by omega)]

theorem mkA_ord {two : Bool} {o : List ua0} {x t : Int} (h : MkA two o x t) (h1 : 1 ≤ o.length) : ordR o := ⟨h.asc, by have := h.pos; have := h.sum; omega⟩

theorem raw_val (k : Nat) (M : Int) (hM : 1 ≤ M) (hM8 : M ≤ 8) (pr : Int) (D : List A5u8) (hD : D.length ≤ 100) (hok : ∀ a ∈ D, up9 a) (hk : D.length + 5 < k) :
    ∃ o, F17 k pr D M = some (2, o) ∧ raw2 o ∧ dims o ≤ M := by
  unfold F17 F17.b
  obtain ⟨o, x, t, ho, h1, h2, h3⟩ := list_valA k M hM hM8 true pr D hD hok hk
  rw [ho]
  exact ⟨o, rfl, ⟨mkA_ord h3 h1, h3.two rfl⟩, by rw [h3.sum]; exact h2⟩

end Go.Cn
