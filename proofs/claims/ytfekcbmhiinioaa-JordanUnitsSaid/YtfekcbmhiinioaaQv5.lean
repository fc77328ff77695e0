/- The plain law of JordanUnits: the blocks, and the law. -/
import Derived.Test.YtfekcbmhiinioaaQv4
set_option linter.unusedVariables false
noncomputable section
open Classical
namespace Go.Cn

theorem u8b {n : Int} (h : okI .u8 n) : 0 ≤ n ∧ n ≤ 255 := by
  have e1 : IntKind.min .u8 = 0 := rfl
  have e2 : IntKind.max .u8 = 255 := rfl
  have h1 := h.1; have h2 := h.2
  omega

theorem blockV (k : Nat) (p : Int) (hp : 2 < p) (hp' : p ≤ 9973) (a : A5u8) (ha : ok_A5u8 a) :
    ∃ E A, Fquadformscene_Block k a.x0 a.x1 a.x2 a.x3 a.x4 p = some (E, 1, A, 0, 0) ∧ 0 ≤ E ∧ E ≤ 3 ∧ 1 ≤ A ∧ A ≤ 256 ∧ ¬ A % p = 0 := by
  obtain ⟨h0, h1, h2, h3, h4⟩ := ha
  have h0 := u8b h0; have h1 := u8b h1; have h2 := u8b h2
  have e0 : Int.tmod (IntKind.wrap .i64 a.x0) 4 = a.x0 % 4 := by rw [wrap_id (by omega) (by omega), Int.tmod_eq_emod_of_nonneg h0.1]
  have e1 : IntKind.wrap .i64 (1 + Int.tmod (IntKind.wrap .i64 a.x1) 2) = 1 + a.x1 % 2 := by
    rw [wrap_id (x := a.x1) (by omega) (by omega), Int.tmod_eq_emod_of_nonneg h1.1, wrap_id (by omega) (by omega)]
  have e2 : IntKind.wrap .i64 a.x2 = a.x2 := wrap_id (by omega) (by omega)
  have e3 : Int.tmod a.x2 p = a.x2 % p := Int.tmod_eq_emod_of_nonneg h2.1
  have e4 : IntKind.wrap .i64 (a.x2 + 1) = a.x2 + 1 := wrap_id (by omega) (by omega)
  have hp0 : ¬ p = 0 := by omega
  have hp2 : ¬ p = 2 := by omega
  have hsucc : a.x2 % p = 0 → ¬ (a.x2 + 1) % p = 0 := by
    intro h hh
    have h5 : (a.x2 + 1) % p = (a.x2 % p + 1) % p := by rw [Int.emod_add_emod]
    rw [h5, h, Int.emod_eq_of_lt (by omega) (by omega)] at hh
    omega
  unfold Fquadformscene_Block Fquadformscene_Block.b
  rw [e0, e1, e2, e3, e4]
  by_cases c1 : 1 + a.x1 % 2 = 1
  · rw [if_pos c1, if_pos hp0, c1]
    by_cases c2 : a.x2 % p = 0
    · rw [if_pos c2]; exact ⟨_, _, rfl, by omega, by omega, by omega, by omega, hsucc c2⟩
    · rw [if_neg c2]; exact ⟨_, _, rfl, by omega, by omega, by
        rcases Int.lt_or_le 0 a.x2 with hh | hh
        · omega
        · exfalso
          have : a.x2 = 0 := by omega
          rw [this] at c2
          simp at c2, by omega, c2⟩
  · rw [if_neg c1, if_neg hp2, if_pos hp0]
    by_cases c2 : a.x2 % p = 0
    · rw [if_pos c2]; exact ⟨_, _, rfl, by omega, by omega, by omega, by omega, hsucc c2⟩
    · rw [if_neg c2]; exact ⟨_, _, rfl, by omega, by omega, by
        rcases Int.lt_or_le 0 a.x2 with hh | hh
        · omega
        · exfalso
          have : a.x2 = 0 := by omega
          rw [this] at c2
          simp at c2, by omega, c2⟩

theorem valid_snoc {p : Int} {l b : Block} (h1 : l.Exp ≤ b.Exp) (h2 : b.Exp ≤ 60) (h3 : okp p b) : ∀ {pre : List Block} {e : Int}, validJ p e (pre ++ [l]) → validJ p e ((pre ++ [l]) ++ [b])
  | [], e, h => by
    simp only [List.nil_append, List.cons_append] at h ⊢
    simp only [validJ] at h ⊢
    exact ⟨h.1, h.2.1, h.2.2.1, h1, h2, h3, trivial⟩
  | q :: pre, e, h => by
    simp only [List.cons_append] at h ⊢
    simp only [validJ] at h ⊢
    exact ⟨h.1, h.2.1, h.2.2.1, valid_snoc h1 h2 h3 h.2.2.2⟩

structure GB (p : Int) (pre : List Block) (l : Block) : Prop where
  valid : validJ p 0 (pre ++ [l])
  exp : l.Exp ≤ 3 + pre.length
  nums : ∀ b ∈ pre ++ [l], 1 ≤ b.A ∧ b.A ≤ 256

open Fquadformscene_BlocksL in
theorem blocks_loopV (k : Nat) (p : Int) (hp : 2 < p) (hp' : p ≤ 9973) (D : List A5u8) (hD : D.length ≤ 9223372036854775807) (hok : ∀ a ∈ D, ok_A5u8 a) : ∀ (r : List A5u8) (j n : Nat) (pre : List Block) (l : Block), 7 - pre.length < j → D.drop n = r → n ≤ D.length → pre.length ≤ 7 → GB p pre l →
    ∃ pre' l', Fquadformscene_BlocksL.l0b k j (pre ++ [l]) p 8 D (D.length : Int) (n : Int) = some (.x1 (pre' ++ [l'])) ∧ pre'.length ≤ 7 ∧ GB p pre' l' := by
  intro r
  induction r with
  | nil =>
    intro j n pre l hj hr hn ho hg
    obtain ⟨j, rfl⟩ : ∃ i, j = i + 1 := ⟨j - 1, by omega⟩
    have hn' := drop_nilJ hr hn
    refine ⟨pre, l, ?_, ho, hg⟩
    show l0b_b k (l0 k j) (l0b k j) _ _ _ _ _ _ = _
    unfold l0b_b
    rw [if_neg (by omega)]
  | cons b r ih =>
    intro j n pre l hj hr hn ho hg
    obtain ⟨j, rfl⟩ : ∃ i, j = i + 1 := ⟨j - 1, by omega⟩
    obtain ⟨g1, g2, g3, g4⟩ := drop_eltJ hr
    show ∃ pre' l', l0b_b k (l0 k j) (l0b k j) _ _ _ _ _ _ = _ ∧ _
    unfold l0b_b
    have hw2 : IntKind.wrap .i64 ((n : Int) + 1) = ((n + 1 : Nat) : Int) := by rw [wrap_id (by omega) (by omega)]; omega
    have hb : ok_A5u8 b := hok b (by have : b ∈ D.drop n := by rw [hr]; simp
                                     exact List.mem_of_mem_drop this)
    obtain ⟨E, A, hq, q1, q2, q3, q4, q5⟩ := blockV k p hp hp' b hb
    have hlen : (pre ++ [l]).length = pre.length + 1 := by simp
    rw [if_pos (by omega), g2, Option.bind_some]
    by_cases h7 : (((pre ++ [l]).length : Nat) : Int) ≥ 8
    · rw [if_pos h7]; exact ⟨pre, l, rfl, ho, hg⟩
    rw [if_neg h7, hq, Option.bind_some, hw2, if_pos (by omega), elt_last pre l (by omega), Option.bind_some, if_pos (by omega)]
    have ht : Int.tmod E 2 = E % 2 := Int.tmod_eq_emod_of_nonneg q1
    have hx := hg.exp
    have hl0 : 0 ≤ l.Exp := by
      have hv := hg.valid
      clear hq hr ih
      have : ∀ (pre : List Block) (e : Int), 0 ≤ e → validJ p e (pre ++ [l]) → 0 ≤ l.Exp := by
        intro pre
        induction pre with
        | nil => intro e h0 h; simp only [List.nil_append, validJ] at h; omega
        | cons q pre ih => intro e h0 h; simp only [List.cons_append, validJ] at h; exact ih q.Exp (by omega) h.2.2.2
      exact this pre 0 (by omega) hv
    have hw : IntKind.wrap .i64 (l.Exp + Int.tmod E 2) = l.Exp + E % 2 := by rw [ht]; exact wrap_id (by omega) (by omega)
    dsimp only
    rw [hw]
    refine ih j (n + 1) (pre ++ [l]) ⟨l.Exp + E % 2, 1, A, 0, 0⟩ (by omega) g3 (by omega) (by omega) ⟨?_, ?_, ?_⟩
    · exact valid_snoc (by show l.Exp ≤ l.Exp + E % 2; omega) (by show l.Exp + E % 2 ≤ 60; omega) ⟨rfl, q5, rfl, rfl⟩ hg.valid
    · show l.Exp + E % 2 ≤ _
      rw [hlen]; omega
    · intro x hx
      rcases List.mem_append.1 hx with hx | hx
      · exact hg.nums x hx
      · simp at hx; subst hx; exact ⟨q3, q4⟩

open Fquadformscene_BlocksL in
theorem blocksV (k : Nat) (p : Int) (hp : 2 < p) (hp' : p ≤ 9973) (D : List A5u8) (hD : D.length ≤ 9223372036854775807) (hok : ∀ a ∈ D, ok_A5u8 a) (hk : 20 < k) :
    Fquadformscene_BlocksL k D p 8 = some .s0 ∨ ∃ pre l, Fquadformscene_BlocksL k D p 8 = some (.s1 (pre ++ [l])) ∧ pre.length ≤ 7 ∧ GB p pre l := by
  unfold Fquadformscene_BlocksL Fquadformscene_BlocksL.b
  obtain ⟨j, rfl⟩ : ∃ i, k = i + 1 := ⟨k - 1, by omega⟩
  have h1 : l0 (j + 1) (j + 1) p 8 D (D.length : Int) 0 = l0_b (j + 1) (l0 (j + 1) j) (l0b (j + 1) j) p 8 D (D.length : Int) 0 := rfl
  rw [h1]
  unfold l0_b
  cases D with
  | nil => exact .inl rfl
  | cons b r =>
    right
    obtain ⟨E, A, hq, q1, q2, q3, q4, q5⟩ := blockV (j + 1) p hp hp' b (hok b (by simp))
    have hw2 : IntKind.wrap .i64 (0 + 1) = ((1 : Nat) : Int) := rfl
    rw [if_pos (by simp), show elt (b :: r) 0 = some b from rfl, Option.bind_some, if_neg (by decide), hq, Option.bind_some, hw2]
    obtain ⟨pre, l, ho, hl, hg⟩ := blocks_loopV (j + 1) p hp hp' (b :: r) hD hok r j 1 [] ⟨E, 1, A, 0, 0⟩ (by simp; omega) rfl (by simp) (by simp)
      ⟨by simp only [List.nil_append, validJ]; exact ⟨q1, by omega, ⟨rfl, q5, rfl, rfl⟩, trivial⟩, by simp; omega, by intro x hx; simp at hx; subst hx; exact ⟨q3, q4⟩⟩
    refine ⟨pre, l, ?_, hl, hg⟩
    have ho' : l0b (j + 1) j [Block.mk E 1 A 0 0] p 8 (b :: r) ((b :: r).length : Int) ((1 : Nat) : Int) = some (.x1 (pre ++ [l])) := ho
    dsimp only
    rw [ho']
    rfl

/-! ### the law's own loop -/
theorem wrap_sg {s t : Int} (h : s = 1 ∨ s = -1) (ht : t = 1 ∨ t = -1) : IntKind.wrap .i64 (s * t) = s * t := by
  rcases h with rfl | rfl <;> rcases ht with rfl | rfl <;> decide

open Fquadformlaw24_JordanUnits in
theorem loopV (k : Nat) (v0 : Int) (v1 : List Block) (p c : Int) (v5 : List Constituent) (v6 : Int) (blk : Block) (t : Int) (h1 : elt v1 v6 = some blk) (h2 : Fquadformref22_Legendre k c p = some t) (ht : t = 1 ∨ t = -1) :
    ∀ (rest : List Constituent) (j : Nat) (done : List Constituent), rest.length < j → (done ++ rest).length < 1000 → (∀ x ∈ rest, Sg x) →
    l0b k j v0 v1 (done.map (upE blk.Exp t) ++ rest) p c v5 v6 ((done ++ rest).length : Int) (done.length : Int) = some (.x1 ((done ++ rest).map (upE blk.Exp t)) v5) := by
  intro rest
  induction rest with
  | nil =>
    intro j done hj hl hs
    obtain ⟨j, rfl⟩ : ∃ i, j = i + 1 := ⟨j - 1, by simp at hj; omega⟩
    show l0b_b k (l0 k j) (l0b k j) _ _ _ _ _ _ _ _ _ = _
    unfold l0b_b
    rw [if_neg (by simp)]
    simp
  | cons x rest ih =>
    intro j done hj hl hs
    obtain ⟨j, rfl⟩ : ∃ i, j = i + 1 := ⟨j - 1, by simp at hj; omega⟩
    show l0b_b k (l0 k j) (l0b k j) _ _ _ _ _ _ _ _ _ = _
    have e1 : elt (done.map (upE blk.Exp t) ++ x :: rest) (done.length : Int) = some x := by
      rw [elt_nat, List.getElem?_append_right (by simp)]; simp
    have hw : IntKind.wrap .i64 ((done.length : Int) + 1) = ((done ++ [x]).length : Int) := by
      rw [wrap_id (by omega) (by simp at hl; omega)]; simp
    have key := ih j (done ++ [x]) (by simp at hj; omega) (by simp at hl ⊢; omega) (fun y hy => hs y (by simp [hy]))
    have hcat : done ++ [x] ++ rest = done ++ x :: rest := by simp
    rw [hcat] at key
    unfold l0b_b
    rw [if_pos (by simp; omega), e1, Option.bind_some, h1, Option.bind_some, hw, ← key]
    by_cases hx : x.Exp = blk.Exp
    · rw [if_pos hx, h2, Option.bind_some, wrap_sg (hs x (by simp)) ht]
      have hset : ∀ y, List.set (done.map (upE blk.Exp t) ++ x :: rest) ((done.length : Int)).toNat y = done.map (upE blk.Exp t) ++ y :: rest := by
        intro y
        rw [Int.toNat_natCast, List.set_append_right _ _ (by simp)]
        simp
      rw [hset]
      have : upE blk.Exp t x = ⟨x.Exp, x.Dim, x.Sign * t, x.Odd, x.Oddity⟩ := if_pos hx
      rw [← this]
      simp
    · rw [if_neg hx]
      have : upE blk.Exp t x = x := if_neg hx
      simp [this]

theorem split_at {α : Type} (L : List α) (i : Nat) (h : i < L.length) : ∃ Q b R, L = Q ++ b :: R ∧ Q.length = i := by
  refine ⟨L.take i, L[i], L.drop (i + 1), ?_, by rw [List.length_take]; omega⟩
  rw [← List.drop_eq_getElem_cons h, List.take_append_drop]

open Fquadformlaw24_JordanUnits in
theorem c1V (p : Int) (hp : p ∈ eight) (pre : List Block) (l : Block) (hl : pre.length ≤ 7) (hg : GB p pre l) (at_ u : Int) (ha : 0 ≤ at_) (ha' : at_ ≤ 255) (hu : 0 ≤ u) (hu' : u ≤ 255) :
    Fquadformlaw24_JordanUnits.c1 300 p (pre ++ [l]) at_ u p = some true := by
  have ho := eight_odd hp
  obtain ⟨p1, p2, p3⟩ := eight_odd hp
  have hc := eight_cases hp
  obtain ⟨L, hL⟩ : ∃ L, L = pre ++ [l] := ⟨_, rfl⟩
  have hv := hg.valid
  have hn := hg.nums
  rw [← hL] at hv hn ⊢
  have hlen : L.length = pre.length + 1 := by rw [hL]; simp
  have hwp : IntKind.wrap .i64 (p - 1) = p - 1 := wrap_id (by omega) (by omega)
  have hwu : IntKind.wrap .i64 u = u := wrap_id (by omega) (by omega)
  have hwa : IntKind.wrap .i64 at_ = at_ := wrap_id (by omega) (by omega)
  have hum : Int.tmod u (p - 1) = u % (p - 1) := Int.tmod_eq_emod_of_nonneg hu
  have hu0 := Int.emod_nonneg u (show p - 1 ≠ 0 by omega)
  have hu1 := Int.emod_lt_of_pos u (show 0 < p - 1 by omega)
  have hwc : IntKind.wrap .i64 (1 + u % (p - 1)) = 1 + u % (p - 1) := wrap_id (by omega) (by omega)
  have ham : Int.tmod at_ (L.length : Int) = at_ % (L.length : Int) := Int.tmod_eq_emod_of_nonneg ha
  have hi0 := Int.emod_nonneg at_ (show (L.length : Int) ≠ 0 by omega)
  have hi1 := Int.emod_lt_of_pos at_ (show 0 < (L.length : Int) by omega)
  obtain ⟨Q, b, R, hQ, hQl⟩ := split_at L (at_ % (L.length : Int)).toNat (by omega)
  have hi : at_ % (L.length : Int) = (Q.length : Int) := by omega
  unfold Fquadformlaw24_JordanUnits.c1
  simp only [hwp, hwu, hwa, hum, hwc, ham]
  rw [if_pos (by omega), if_neg (by omega), hi]
  obtain ⟨c, hcd⟩ : ∃ c, c = 1 + u % (p - 1) := ⟨_, rfl⟩
  rw [← hcd]
  have c0 : 1 ≤ c := by omega
  have cp : c < p := by omega
  clear hwc hum hi hi0 hi1 ham hcd hu0 hu1
  subst hQ
  have hb : okp p b := by
    have : ∀ (Q : List Block) (e : Int), validJ p e (Q ++ b :: R) → okp p b := by
      intro Q
      induction Q with
      | nil => intro e h; simp only [List.nil_append, validJ] at h; exact h.2.2.1
      | cons q Q ih => intro e h; simp only [List.cons_append, validJ] at h; exact ih q.Exp h.2.2.2
    exact this Q 0 hv
  obtain ⟨A0, A1⟩ := hn b (by simp)
  obtain ⟨t1, t2, t3⟩ := leg_tab hp b.A c hb.2.1 c0 cp
  have hcm : ¬ c % p = 0 := by rw [Int.emod_eq_of_lt (by omega) cp]; omega
  have hcc : c * c ≤ 22 * 22 := Int.mul_le_mul (by omega) (by omega) (by omega) (by omega)
  have hcc0 : 0 ≤ c * c := Int.mul_nonneg (by omega) (by omega)
  have hA : b.A * (c * c) ≤ 256 * (22 * 22) := Int.mul_le_mul A1 hcc hcc0 (by omega)
  have hA0 : 0 ≤ b.A * (c * c) := Int.mul_nonneg (by omega) hcc0
  have hAc : b.A * (c * c) * c ≤ 256 * (22 * 22) * 22 := Int.mul_le_mul hA (by omega) (by omega) (by omega)
  have hAc0 : 0 ≤ b.A * (c * c) * c := Int.mul_nonneg hA0 (by omega)
  have w1 : IntKind.wrap .i64 (c * c) = c * c := wrap_id (by omega) (by omega)
  have w2 : IntKind.wrap .i64 (b.A * (c * c)) = b.A * (c * c) := wrap_id (by omega) (by omega)
  have w3 : IntKind.wrap .i64 (b.A * (c * c) * c) = b.A * (c * c) * c := wrap_id (by omega) (by omega)
  have hset : ∀ x y, List.set (Q ++ x :: R) ((Q.length : Int)).toNat y = Q ++ y :: R := by
    intro x y
    rw [Int.toNat_natCast, List.set_append_right _ _ (Nat.le_refl _)]; simp
  have helt : ∀ x, elt (Q ++ x :: R) (Q.length : Int) = some x := by
    intro x
    rw [elt_nat, List.getElem?_append_right (Nat.le_refl _)]; simp
  have hsl : ∀ x : Block, (Q ++ x :: R).length = (Q ++ b :: R).length := by intro x; simp
  obtain ⟨lc1, lc2, lc3⟩ := leg_spec 300 (by omega) p ho c hcm
  -- the three lists
  have n1 : ¬ (b.A * (c * c)) % p = 0 := euclid ho hb.2.1 (euclid ho hcm hcm)
  have n2 : ¬ (b.A * (c * c) * c) % p = 0 := euclid ho n1 hcm
  have vv1 : validJ p 0 (Q ++ (Block.mk b.Exp b.Size (b.A * (c * c)) b.B b.C) :: R) := valid_at (b := b) (b2 := Block.mk b.Exp b.Size (b.A * (c * c)) b.B b.C) rfl ⟨hb.1, n1, hb.2.2⟩ hv
  have vv2 : validJ p 0 (Q ++ (Block.mk b.Exp b.Size (b.A * (c * c) * c) b.B b.C) :: R) := valid_at (b := b) (b2 := Block.mk b.Exp b.Size (b.A * (c * c) * c) b.B b.C) rfl ⟨hb.1, n2, hb.2.2⟩ hv
  have m0 : meantJ p (Q ++ b :: R) := ⟨ho, by omega, by omega, hv⟩
  have m1 : meantJ p (Q ++ (Block.mk b.Exp b.Size (b.A * (c * c)) b.B b.C) :: R) := ⟨ho, by rw [hsl]; omega, by rw [hsl]; omega, vv1⟩
  have m2 : meantJ p (Q ++ (Block.mk b.Exp b.Size (b.A * (c * c) * c) b.B b.C) :: R) := ⟨ho, by rw [hsl]; omega, by rw [hsl]; omega, vv2⟩
  have r1 : runLJ 300 p (Q ++ (Block.mk b.Exp b.Size (b.A * (c * c)) b.B b.C) :: R) = runLJ 300 p (Q ++ b :: R) := by
    rw [runL_at 300 p 1 b (Block.mk b.Exp b.Size (b.A * (c * c)) b.B b.C) R rfl (by show leg 300 p (b.A * (c * c)) = _; rw [Int.mul_one]; exact t1) Q hv, upE_one]
  have r2 : runLJ 300 p (Q ++ (Block.mk b.Exp b.Size (b.A * (c * c) * c) b.B b.C) :: R) = (runLJ 300 p (Q ++ b :: R)).map (upE b.Exp (leg 300 p c)) :=
    runL_at 300 p (leg 300 p c) b (Block.mk b.Exp b.Size (b.A * (c * c) * c) b.B b.C) R rfl t2 Q hv
  rw [progJ 300 (by omega) p [] (Q ++ b :: R), if_pos m0, Option.bind_some, if_pos (by omega), helt b, Option.bind_some]
  simp only [w1, w2, w3, hset]
  rw [progJ 300 (by omega) p [] _, if_pos m1, Option.bind_some, progL 300 (by omega) p [] _, if_pos m2, Option.bind_some]
  dsimp only
  rw [r1]
  have hrl := runLJ_len 300 p (Q ++ b :: R) m0.2.1
  unfold Fquadformlaw24_JordanUnits.c3
  rw [if_pos rfl, if_pos rfl, if_pos rfl, same_selfJ 300 _ (by omega) (by omega), Option.bind_some, if_pos rfl, if_pos (by rw [r2]; simp)]
  have hsg := runL_sign 300 (by omega) p ho _ vv2
  have key := loopV 300 p (Q ++ (Block.mk b.Exp b.Size (b.A * (c * c) * c) b.B b.C) :: R) p c (runLJ 300 p (Q ++ b :: R)) (Q.length : Int) _ (leg 300 p c) (helt _) lc3 lc1
    (runLJ 300 p (Q ++ (Block.mk b.Exp b.Size (b.A * (c * c) * c) b.B b.C) :: R)) 300 [] (by rw [r2, List.length_map]; omega) (by rw [List.nil_append, r2, List.length_map]; omega) hsg
  simp only [List.map_nil, List.nil_append, List.length_nil] at key
  have e0 : ((0 : Nat) : Int) = 0 := rfl
  rw [e0] at key
  rw [key, Option.bind_some]
  dsimp only
  unfold Fquadformlaw24_JordanUnits.c5
  rw [r2, upE_upE t3, same_selfJ 300 _ (by omega) (by omega), Option.bind_some, if_pos rfl]
  rfl

theorem oddPrimeV (k : Nat) (a : Int) (h0 : 0 ≤ a) : ∃ q, Fquadformscene_OddPrime k a = some q ∧ q ∈ eight := by
  unfold Fquadformscene_OddPrime Fquadformscene_OddPrime.b
  rw [Int.tmod_eq_emod_of_nonneg h0]
  have h1 : a % 8 = 0 ∨ a % 8 = 1 ∨ a % 8 = 2 ∨ a % 8 = 3 ∨ a % 8 = 4 ∨ a % 8 = 5 ∨ a % 8 = 6 ∨ a % 8 = 7 := by omega
  rcases h1 with h | h | h | h | h | h | h | h <;> rw [h]
  · exact ⟨3, rfl, by simp [eight]⟩
  · exact ⟨5, rfl, by simp [eight]⟩
  · exact ⟨7, rfl, by simp [eight]⟩
  · exact ⟨11, rfl, by simp [eight]⟩
  · exact ⟨13, rfl, by simp [eight]⟩
  · exact ⟨17, rfl, by simp [eight]⟩
  · exact ⟨19, rfl, by simp [eight]⟩
  · exact ⟨23, rfl, by simp [eight]⟩

end Go.Cn
