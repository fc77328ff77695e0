/- The plain law of DyadicBlocks: blocks and lists. -/
import Derived.Test.YtfekcbmhiinioaaQd4
import Derived.Test.YtfekcbmhiinioaaCk6
set_option linter.unusedVariables false
noncomputable section
namespace Go.Cn

theorem u8d {n : Int} (h : okI .u8 n) : 0 ≤ n ∧ n ≤ 255 := by
  have e1 : IntKind.min .u8 = 0 := rfl
  have e2 : IntKind.max .u8 = 255 := rfl
  have h1 := h.1; have h2 := h.2
  omega

theorem blockD (k : Nat) (a : A5u8) (ha : ok_A5u8 a) :
    ∃ E S A B C, Fquadformscene_Block k a.x0 a.x1 a.x2 a.x3 a.x4 2 = some (E, S, A, B, C) ∧ 0 ≤ E ∧ E ≤ 3 ∧ ∀ e, okb (Block.mk e S A B C) := by
  obtain ⟨h0, h1, h2, h3, h4⟩ := ha
  have h0 := u8d h0; have h1 := u8d h1; have h2 := u8d h2; have h3 := u8d h3; have h4 := u8d h4
  have e0 : Int.tmod (IntKind.wrap .i64 a.x0) 4 = a.x0 % 4 := by rw [wrap_id (by omega) (by omega), Int.tmod_eq_emod_of_nonneg h0.1]
  have e1 : IntKind.wrap .i64 (1 + Int.tmod (IntKind.wrap .i64 a.x1) 2) = 1 + a.x1 % 2 := by
    rw [wrap_id (x := a.x1) (by omega) (by omega), Int.tmod_eq_emod_of_nonneg h1.1, wrap_id (by omega) (by omega)]
  have e2 : IntKind.wrap .i64 a.x2 = a.x2 := wrap_id (by omega) (by omega)
  have e3 : Int.tmod a.x2 2 = a.x2 % 2 := Int.tmod_eq_emod_of_nonneg h2.1
  have e4 : IntKind.wrap .i64 (a.x2 + 1) = a.x2 + 1 := wrap_id (by omega) (by omega)
  have e5 : IntKind.wrap .i64 (2 * a.x2) = 2 * a.x2 := wrap_id (by omega) (by omega)
  have e6 : IntKind.wrap .i64 a.x3 = a.x3 := wrap_id (by omega) (by omega)
  have e7 : IntKind.wrap .i64 (2 * a.x3) = 2 * a.x3 := wrap_id (by omega) (by omega)
  have e8 : IntKind.wrap .i64 (2 * a.x3 + 1) = 2 * a.x3 + 1 := wrap_id (by omega) (by omega)
  have e9 : IntKind.wrap .i64 a.x4 = a.x4 := wrap_id (by omega) (by omega)
  have e10 : IntKind.wrap .i64 (2 * a.x4) = 2 * a.x4 := wrap_id (by omega) (by omega)
  unfold Fquadformscene_Block Fquadformscene_Block.b
  rw [e0, e1, e2, e3, e4, e5, e6, e7, e8, e9, e10]
  by_cases c1 : 1 + a.x1 % 2 = 1
  · rw [if_pos c1, if_pos (by decide), c1]
    by_cases c2 : a.x2 % 2 = 0
    · rw [if_pos c2]; exact ⟨_, _, _, _, _, rfl, by omega, by omega, fun e => .inl ⟨rfl, by show (a.x2 + 1) % 2 = 1; omega, rfl, rfl⟩⟩
    · rw [if_neg c2]; exact ⟨_, _, _, _, _, rfl, by omega, by omega, fun e => .inl ⟨rfl, by show a.x2 % 2 = 1; omega, rfl, rfl⟩⟩
  · rw [if_neg c1, if_pos rfl]
    exact ⟨_, _, _, _, _, rfl, by omega, by omega, fun e => .inr ⟨by show 1 + a.x1 % 2 = 2; omega, by show 2 * a.x2 % 2 = 0; omega, by show (2 * a.x3 + 1) % 2 = 1; omega, by show 2 * a.x4 % 2 = 0; omega⟩⟩

theorem valid_snocD {l b : Block} (h1 : l.Exp ≤ b.Exp) (h2 : b.Exp ≤ 60) (h3 : okb b) : ∀ {pre : List Block} {e : Int}, valid e (pre ++ [l]) → valid e ((pre ++ [l]) ++ [b])
  | [], e, h => by
    simp only [List.nil_append, List.cons_append] at h ⊢
    simp only [valid] at h ⊢
    exact ⟨h.1, h.2.1, h.2.2.1, h1, h2, h3, trivial⟩
  | q :: pre, e, h => by
    simp only [List.cons_append] at h ⊢
    simp only [valid] at h ⊢
    exact ⟨h.1, h.2.1, h.2.2.1, valid_snocD h1 h2 h3 h.2.2.2⟩

theorem valid_last {l : Block} : ∀ (pre : List Block) (e : Int), 0 ≤ e → valid e (pre ++ [l]) → 0 ≤ l.Exp
  | [], e, h0, h => by simp only [List.nil_append, valid] at h; omega
  | q :: pre, e, h0, h => by simp only [List.cons_append, valid] at h; exact valid_last pre q.Exp (by omega) h.2.2.2

structure GD (pre : List Block) (l : Block) : Prop where
  valid : valid 0 (pre ++ [l])
  exp : l.Exp ≤ 3 + pre.length

open Fquadformscene_BlocksL in
theorem blocks_loopD (k : Nat) (D : List A5u8) (hD : D.length ≤ 9223372036854775807) (hok : ∀ a ∈ D, ok_A5u8 a) : ∀ (r : List A5u8) (j n : Nat) (pre : List Block) (l : Block), 4 - pre.length < j → D.drop n = r → n ≤ D.length → pre.length ≤ 4 → GD pre l →
    ∃ pre' l', Fquadformscene_BlocksL.l0b k j (pre ++ [l]) 2 5 D (D.length : Int) (n : Int) = some (.x1 (pre' ++ [l'])) ∧ pre'.length ≤ 4 ∧ GD pre' l' := by
  intro r
  induction r with
  | nil =>
    intro j n pre l hj hr hn ho hg
    obtain ⟨j, rfl⟩ : ∃ i, j = i + 1 := ⟨j - 1, by omega⟩
    have hn' := drop_nil hr hn
    refine ⟨pre, l, ?_, ho, hg⟩
    show l0b_b k (l0 k j) (l0b k j) _ _ _ _ _ _ = _
    unfold l0b_b
    rw [if_neg (by omega)]
  | cons b r ih =>
    intro j n pre l hj hr hn ho hg
    obtain ⟨j, rfl⟩ : ∃ i, j = i + 1 := ⟨j - 1, by omega⟩
    obtain ⟨g1, g2, g3, g4⟩ := drop_elt hr
    show ∃ pre' l', l0b_b k (l0 k j) (l0b k j) _ _ _ _ _ _ = _ ∧ _
    unfold l0b_b
    have hw2 : IntKind.wrap .i64 ((n : Int) + 1) = ((n + 1 : Nat) : Int) := by rw [wrap_id (by omega) (by omega)]; omega
    have hb : ok_A5u8 b := hok b (by have : b ∈ D.drop n := by rw [hr]; simp
                                     exact List.mem_of_mem_drop this)
    obtain ⟨E, S, A, B, C, hq, q1, q2, q3⟩ := blockD k b hb
    have hlen : (pre ++ [l]).length = pre.length + 1 := by simp
    rw [if_pos (by omega), g2, Option.bind_some]
    by_cases h7 : (((pre ++ [l]).length : Nat) : Int) ≥ 5
    · rw [if_pos h7]; exact ⟨pre, l, rfl, ho, hg⟩
    rw [if_neg h7, hq, Option.bind_some, hw2, if_pos (by omega), elt_last pre l (by omega), Option.bind_some, if_pos (by omega)]
    have ht : Int.tmod E 2 = E % 2 := Int.tmod_eq_emod_of_nonneg q1
    have hx := hg.exp
    have hl0 : 0 ≤ l.Exp := valid_last pre 0 (by omega) hg.valid
    have hw : IntKind.wrap .i64 (l.Exp + Int.tmod E 2) = l.Exp + E % 2 := by rw [ht]; exact wrap_id (by omega) (by omega)
    dsimp only
    rw [hw]
    refine ih j (n + 1) (pre ++ [l]) ⟨l.Exp + E % 2, S, A, B, C⟩ (by omega) g3 (by omega) (by omega) ⟨?_, ?_⟩
    · exact valid_snocD (by show l.Exp ≤ l.Exp + E % 2; omega) (by show l.Exp + E % 2 ≤ 60; omega) (q3 _) hg.valid
    · show l.Exp + E % 2 ≤ _
      rw [hlen]; omega

open Fquadformscene_BlocksL in
theorem blocksD (k : Nat) (D : List A5u8) (hD : D.length ≤ 9223372036854775807) (hok : ∀ a ∈ D, ok_A5u8 a) (hk : 20 < k) :
    Fquadformlaw25_blocksL k D 5 = some (.s0 2) ∨ ∃ pre l, Fquadformlaw25_blocksL k D 5 = some (.s1 2 (pre ++ [l])) ∧ pre.length ≤ 4 ∧ GD pre l := by
  unfold Fquadformlaw25_blocksL Fquadformlaw25_blocksL.b Fquadformscene_BlocksL Fquadformscene_BlocksL.b
  obtain ⟨j, rfl⟩ : ∃ i, k = i + 1 := ⟨k - 1, by omega⟩
  have h1 : l0 (j + 1) (j + 1) 2 5 D (D.length : Int) 0 = l0_b (j + 1) (l0 (j + 1) j) (l0b (j + 1) j) 2 5 D (D.length : Int) 0 := rfl
  rw [h1]
  unfold l0_b
  cases D with
  | nil => exact .inl rfl
  | cons b r =>
    right
    obtain ⟨E, S, A, B, C, hq, q1, q2, q3⟩ := blockD (j + 1) b (hok b (by simp))
    have hw2 : IntKind.wrap .i64 (0 + 1) = ((1 : Nat) : Int) := rfl
    rw [if_pos (by simp), show elt (b :: r) 0 = some b from rfl, Option.bind_some, if_neg (by decide), hq, Option.bind_some, hw2]
    obtain ⟨pre, l, ho, hl, hg⟩ := blocks_loopD (j + 1) (b :: r) hD hok r j 1 [] ⟨E, S, A, B, C⟩ (by simp; omega) rfl (by simp) (by simp)
      ⟨by simp only [List.nil_append, valid]; exact ⟨q1, by omega, q3 _, trivial⟩, by simp; omega⟩
    refine ⟨pre, l, ?_, hl, hg⟩
    have ho' : l0b (j + 1) j [Block.mk E S A B C] 2 5 (b :: r) ((b :: r).length : Int) ((1 : Nat) : Int) = some (.x1 (pre ++ [l])) := ho
    dsimp only
    rw [ho']
    rfl

/-! ### one block more at the end -/
def stA (pre : List (Constituent × Int)) (p : Constituent × Int) : List Block → List (Constituent × Int) × (Constituent × Int)
  | [] => (pre, p)
  | b :: r => stA (stepA pre p b).1 (stepA pre p b).2 r

theorem runA_st : ∀ (r : List Block) (pre : List (Constituent × Int)) (p : Constituent × Int), runA pre p r = (stA pre p r).1 ++ [(stA pre p r).2]
  | [], pre, p => rfl
  | b :: r, pre, p => by simp only [runA, stA]; exact runA_st r _ _
theorem stA_snoc (w : Block) : ∀ (r : List Block) (pre : List (Constituent × Int)) (p : Constituent × Int), stA pre p (r ++ [w]) = stepA (stA pre p r).1 (stA pre p r).2 w
  | [], pre, p => by simp only [List.nil_append, stA]
  | b :: r, pre, p => by simp only [List.cons_append, stA]; exact stA_snoc w r _ _

def stL : List Block → List (Constituent × Int) × (Constituent × Int)
  | [] => ([], new 0)
  | b :: r => stA [] (upd (new b.Exp) b) r

theorem runL_st {L : List Block} (h : L ≠ []) : runL L = (stL L).1 ++ [(stL L).2] := by
  cases L with
  | nil => exact absurd rfl h
  | cons b r => exact runA_st r _ _
theorem stL_snoc {L : List Block} (h : L ≠ []) (w : Block) : stL (L ++ [w]) = stepA (stL L).1 (stL L).2 w := by
  cases L with
  | nil => exact absurd rfl h
  | cons b r => exact stA_snoc w r _ _
theorem step_exp (pre : List (Constituent × Int)) (p : Constituent × Int) (b : Block) : (stepA pre p b).2.1.Exp = b.Exp := by
  unfold stepA
  split
  · next e => exact e.symm
  · rfl
theorem stL_exp (pre : List Block) (l : Block) : (stL (pre ++ [l])).2.1.Exp = l.Exp := by
  cases pre with
  | nil => rfl
  | cons b r =>
    have := stL_snoc (L := b :: r) (by simp) l
    rw [this]
    exact step_exp _ _ l

theorem sizes_snoc : ∀ (L : List Block) (w : Block), sizes (L ++ [w]) = sizes L + w.Size
  | [], w => by simp [sizes]
  | b :: L, w => by simp only [List.cons_append, sizes, sizes_snoc L w]; omega

open Fquadformscene_BlocksL in
theorem take_self {α : Type} (L : List α) (w : α) : (L ++ [w]).take L.length = L := by simp

open Fquadformlaw25_DyadicBlocks in
theorem sum_loop (k : Nat) (L' : List Block) (ok : Bool) (L : List Block) (hL : L.length ≤ 100) (hs : ∀ b ∈ L, b.Size = 1 ∨ b.Size = 2) (htk : L'.take L.length = L) : ∀ (r : List Block) (j n : Nat) (s : Int), r.length < j → L.drop n = r → n ≤ L.length → 0 ≤ s → s ≤ 2 + 2 * n →
    l0 k j L' ok s L.length ((L.length : Nat) : Int) (n : Int) = some (ok, s + sizes r) := by
  intro r
  induction r with
  | nil =>
    intro j n s hj hr hn s0 s1
    obtain ⟨j, rfl⟩ : ∃ i, j = i + 1 := ⟨j - 1, by simp at hj; omega⟩
    have hn' := drop_nil hr hn
    show l0_b k (l0 k j) _ _ _ _ _ _ = _
    unfold l0_b
    rw [if_neg (by omega)]
    simp [sizes]
  | cons b r ih =>
    intro j n s hj hr hn s0 s1
    obtain ⟨j, rfl⟩ : ∃ i, j = i + 1 := ⟨j - 1, by simp at hj; omega⟩
    obtain ⟨g1, g2, g3, g4⟩ := drop_elt hr
    have hb := hs b (List.mem_of_getElem? g4)
    show l0_b k (l0 k j) _ _ _ _ _ _ = _
    unfold l0_b
    have hw2 : IntKind.wrap .i64 ((n : Int) + 1) = ((n + 1 : Nat) : Int) := by rw [wrap_id (by omega) (by omega)]; omega
    have hw3 : IntKind.wrap .i64 (s + b.Size) = s + b.Size := wrap_id (by omega) (by omega)
    rw [if_pos (by omega), htk, g2, Option.bind_some, hw2, hw3, ih j (n + 1) (s + b.Size) (by simp at hj; omega) g3 (by omega) (by omega) (by omega)]
    simp only [sizes, Int.add_assoc]

theorem valid_sizes : ∀ {L : List Block} {e : Int}, valid e L → ∀ b ∈ L, b.Size = 1 ∨ b.Size = 2
  | [], _, _, b, hb => by simp at hb
  | q :: L, e, h, b, hb => by
    simp only [valid] at h
    rcases List.mem_cons.1 hb with rfl | hb
    · exact okb_size h.2.2.1
    · exact valid_sizes h.2.2.2 b hb

end Go.Cn
