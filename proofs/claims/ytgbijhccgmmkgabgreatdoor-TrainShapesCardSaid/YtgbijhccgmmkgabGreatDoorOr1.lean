/- Lists of constituents in order: what the document asks. -/
import Derived.Test.YtgbijhccgmmkgabGreatDoorTf13m6
import Derived.Test.YtgbijhccgmmkgabGreatDoorTa1
set_option linter.unusedVariables false
noncomputable section
open Classical
namespace Go.Cn

theorem drop_eltS {α : Type} {L r : List α} {b : α} {n : Nat} (h : L.drop n = b :: r) : n < L.length ∧ elt L (n : Int) = some b ∧ L.drop (n + 1) = r ∧ L[n]? = some b := by
  have h1 : n < L.length := by
    have := congrArg List.length h
    simp at this; omega
  have h2 : L[n]? = some b := by
    have := List.getElem?_drop (xs := L) (i := n) (j := 0)
    rw [h] at this
    simpa using this.symm
  refine ⟨h1, by rw [elt_nat]; exact h2, ?_, h2⟩
  have : L.drop (n + 1) = (L.drop n).drop 1 := by rw [List.drop_drop]
  rw [this, h]; rfl
theorem drop_nilS {α : Type} {L : List α} {n : Nat} (h : L.drop n = []) (h' : n ≤ L.length) : n = L.length := by
  have := List.drop_eq_nil_iff.1 h; omega

def dims : List ua0 → Int
  | [] => 0
  | c :: r => c.Dim + dims r
def signed (c : ua0) : Prop := c.Sign = 1 ∨ c.Sign = -1
def bare (c : ua0) : Prop := c.Odd = false ∧ c.Oddity = 0
/-- as the document asks -/
def ascR (e s : Int) : List ua0 → Prop
  | [] => True
  | c :: r => e < c.Exp ∧ c.Exp ≤ 60 ∧ signed c ∧ 1 ≤ c.Dim ∧ c.Dim ≤ 8 - s ∧ ascR c.Exp (s + c.Dim) r

open F41 in
theorem order_loop (k : Nat) (L : List ua0) (hL : L.length ≤ 1000) : ∀ (r : List ua0) (j n : Nat) (s : Int), r.length < j → L.drop n = r → n ≤ L.length → 0 ≤ s → s ≤ 8 →
    ∀ e, -1 ≤ e → (n = 0 → e = -1) → (∀ m q, n = m + 1 → L[m]? = some q → e = q.Exp) →
    F41.l0 k j L s L (L.length : Int) (n : Int) = if ascR e s r then some (.x0 (s + dims r)) else some (.ret false) := by
  intro r
  induction r with
  | nil =>
    intro j n s hj hr hn s0 s1 e he0 he he'
    obtain ⟨j, rfl⟩ : ∃ i, j = i + 1 := ⟨j - 1, by simp at hj; omega⟩
    have hn' := drop_nilS hr hn
    show l0_b k (l0 k j) _ _ _ _ _ = _
    unfold l0_b
    rw [if_neg (by omega), if_pos (by simp [ascR])]
    simp [dims]
  | cons c r ih =>
    intro j n s hj hr hn s0 s1 e he0 he he'
    obtain ⟨j, rfl⟩ : ∃ i, j = i + 1 := ⟨j - 1, by simp at hj; omega⟩
    obtain ⟨g1, g2, g3, g4⟩ := drop_eltS hr
    simp only [List.length_cons] at hj
    have hw2 : IntKind.wrap .i64 ((n : Int) + 1) = ((n + 1 : Nat) : Int) := by rw [ud0 (by omega) (by omega)]; omega
    have hw8 : IntKind.wrap .i64 (8 - s) = 8 - s := ud0 (by omega) (by omega)
    have tail : e < c.Exp → c.Exp ≤ 60 →
        (if c.Sign = (1 : Int) then (if c.Dim < (1 : Int) then (some (O0.ret (false))) else (if c.Dim > (IntKind.wrap .i64 ((8 : Int) - s)) then (some (.ret (false))) else ((l0 k j) L (IntKind.wrap .i64 (s + c.Dim)) L (L.length : Int) (IntKind.wrap .i64 ((n : Int) + (1 : Int)))))) else (if c.Sign = (-1 : Int) then (if c.Dim < (1 : Int) then (some (.ret (false))) else (if c.Dim > (IntKind.wrap .i64 ((8 : Int) - s)) then (some (.ret (false))) else ((l0 k j) L (IntKind.wrap .i64 (s + c.Dim)) L (L.length : Int) (IntKind.wrap .i64 ((n : Int) + (1 : Int)))))) else (some (.ret (false))))) =
        if ascR e s (c :: r) then some (.x0 (s + dims (c :: r))) else some (.ret false) := by
      intro x1 x2
      rw [hw8]
      have fin : signed c → (if c.Dim < (1 : Int) then (some (O0.ret (false))) else (if c.Dim > (8 : Int) - s then (some (.ret (false))) else ((l0 k j) L (IntKind.wrap .i64 (s + c.Dim)) L (L.length : Int) (IntKind.wrap .i64 ((n : Int) + (1 : Int)))))) = if ascR e s (c :: r) then some (.x0 (s + dims (c :: r))) else some (.ret false) := by
        intro hs
        by_cases d1 : c.Dim < 1
        · rw [if_pos d1, if_neg (by simp only [ascR]; omega)]
        rw [if_neg d1]
        by_cases d2 : c.Dim > 8 - s
        · rw [if_pos d2, if_neg (by simp only [ascR]; omega)]
        rw [if_neg d2]
        have hw3 : IntKind.wrap .i64 (s + c.Dim) = s + c.Dim := ud0 (by omega) (by omega)
        have key := ih j (n + 1) (s + c.Dim) (by omega) g3 (by omega) (by omega) (by omega) c.Exp (by omega) (fun h => absurd h (by omega)) (fun m q hm hq => by
          have : m = n := by omega
          subst this
          rw [g4] at hq
          cases hq; rfl)
        rw [hw2, hw3, key]
        have hiff : ascR e s (c :: r) ↔ ascR c.Exp (s + c.Dim) r := by
          constructor
          · intro h; simp only [ascR] at h; exact h.2.2.2.2.2
          · intro h; simp only [ascR]; exact ⟨x1, x2, hs, by omega, by omega, h⟩
        simp only [hiff, dims, Int.add_assoc]
      by_cases s1' : c.Sign = 1
      · rw [if_pos s1']; exact fin (.inl s1')
      rw [if_neg s1']
      by_cases s2' : c.Sign = -1
      · rw [if_pos s2']; exact fin (.inr s2')
      rw [if_neg s2', if_neg (by simp only [ascR, signed]; rintro ⟨-, -, h, -⟩; rcases h with h | h <;> contradiction)]
    show l0_b k (l0 k j) _ _ _ _ _ = _
    unfold l0_b
    rw [if_pos (by omega), g2, Option.bind_some]
    by_cases e1 : c.Exp < 0
    · rw [if_pos e1, if_neg (by simp only [ascR]; omega)]
    rw [if_neg e1]
    by_cases e2 : c.Exp > 60
    · rw [if_pos e2, if_neg (by simp only [ascR]; omega)]
    rw [if_neg e2]
    cases n with
    | zero =>
      rw [if_neg (by simp)]
      have := he rfl
      exact tail (by omega) (by omega)
    | succ n =>
      rw [if_pos (by omega)]
      have hw1 : IntKind.wrap .i64 (((n + 1 : Nat) : Int) - 1) = (n : Int) := by rw [ud0 (by omega) (by omega)]; omega
      have hq : L[n]? = some L[n] := List.getElem?_eq_getElem (by omega)
      rw [hw1, elt_nat, hq, Option.bind_some]
      have hqe := he' n _ rfl hq
      by_cases hlt : c.Exp ≤ L[n].Exp
      · rw [if_pos hlt, if_neg (by simp only [ascR]; omega)]
      rw [if_neg hlt]
      exact tail (by omega) (by omega)


theorem ascR_dims : ∀ (r : List ua0) (e s : Int), ascR e s r → (r.length : Int) ≤ dims r ∧ (r = [] ∨ s + dims r ≤ 8)
  | [], _, _, _ => ⟨by simp [dims], .inl rfl⟩
  | c :: r, e, s, h => by
    simp only [ascR] at h
    obtain ⟨h1, h2⟩ := ascR_dims r _ _ h.2.2.2.2.2
    simp only [dims, List.length_cons]
    refine ⟨by omega, .inr ?_⟩
    rcases h2 with rfl | h2
    · simp only [dims]; omega
    · omega

theorem ascR_mem : ∀ {r : List ua0} {e s : Int}, 0 ≤ s → ascR e s r → ∀ c ∈ r, e < c.Exp ∧ c.Exp ≤ 60 ∧ signed c ∧ 1 ≤ c.Dim ∧ c.Dim ≤ 8
  | [], _, _, _, _, c, hc => by simp at hc
  | d :: r, e, s, hs, h, c, hc => by
    simp only [ascR] at h
    rcases List.mem_cons.1 hc with rfl | hc
    · exact ⟨h.1, h.2.1, h.2.2.1, h.2.2.2.1, by omega⟩
    · have := ascR_mem (r := r) (by omega) h.2.2.2.2.2 c hc
      exact ⟨by omega, this.2⟩

theorem ascR_snoc (z : ua0) (h60 : z.Exp ≤ 60) (hs : signed z) (hd : 1 ≤ z.Dim) : ∀ {M : List ua0} {y s : Int}, ascR y s M → (∀ m ∈ M, m.Exp < z.Exp) → y < z.Exp → z.Dim ≤ 8 - (s + dims M) → ascR y s (M ++ [z])
  | [], y, s, _, _, hy, h8 => by simp only [List.nil_append, ascR, dims] at h8 ⊢; exact ⟨hy, h60, hs, hd, by omega, trivial⟩
  | m :: M, y, s, h, hb, hy, h8 => by
    simp only [List.cons_append, ascR, dims] at h h8 ⊢
    exact ⟨h.1, h.2.1, h.2.2.1, h.2.2.2.1, h.2.2.2.2.1, ascR_snoc z h60 hs hd h.2.2.2.2.2 (fun x hx => hb x (by simp [hx])) (hb m (by simp)) (by omega)⟩

theorem dims_snoc : ∀ (L : List ua0) (c : ua0), dims (L ++ [c]) = dims L + c.Dim
  | [], c => by simp [dims]
  | d :: L, c => by simp only [List.cons_append, dims, dims_snoc L c]; omega

def ordR (L : List ua0) : Prop := ascR (-1) 0 L ∧ dims L > 0

theorem ui2 {L : List ua0} (h : ordR L) : 1 ≤ L.length ∧ L.length ≤ 8 ∧ dims L ≤ 8 := by
  obtain ⟨h1, h2⟩ := ascR_dims L _ _ h.1
  have hd := h.2
  rcases h2 with rfl | h2
  · simp [dims] at hd
  · refine ⟨?_, by omega, by omega⟩
    cases L with
    | nil => simp [dims] at hd
    | cons c L => simp

theorem order_val (k : Nat) (L : List ua0) (hL : L.length ≤ 1000) (hk : L.length < k) : F41 k L = some (decide (ordR L)) := by
  unfold F41 F41.b
  have key := order_loop k L hL L k 0 0 hk rfl (by omega) (by omega) (by omega) (-1) (by omega) (fun _ => rfl) (fun m q h => absurd h (by omega))
  have e0 : ((0 : Nat) : Int) = 0 := rfl
  rw [e0] at key
  rw [key]
  by_cases ha : ascR (-1) 0 L
  case neg => rw [if_neg ha, decide_eq_false (p := ordR L) (fun h => ha h.1)]; rfl
  rw [if_pos ha]
  show F41.c0 k (0 + dims L) = _
  unfold F41.c0
  rw [Int.zero_add]
  by_cases hd : dims L > 0
  · rw [decide_eq_true hd, decide_eq_true (p := ordR L) ⟨ha, hd⟩]
  · rw [decide_eq_false hd, decide_eq_false (p := ordR L) (fun h => hd h.2)]

end Go.Cn
