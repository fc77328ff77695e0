/- The plain law of DyadicConstituents: the second program's answer. -/
import Derived.Test.YtfekcbmhiinioaaPl4
set_option linter.unusedVariables false
noncomputable section
namespace Go.Cn

def outR (pre : List (Constituent × Int)) (p : Constituent × Int) : List Constituent := pre.map (·.1) ++ [p.1]
theorem outR_eq (pre p) : outR pre p = (pre ++ [p]).map (·.1) := by simp [outR]
theorem outR_new (pre p e) : outR pre p ++ [Constituent.mk e 0 1 false 0] = outR (pre ++ [p]) (new e) := by simp [outR, new]

theorem tmod8 {x : Int} (h : 0 ≤ x) : Int.tmod x 8 = x % 8 := Int.tmod_eq_emod_of_nonneg h

theorem c0R_val (k : Nat) (s0 s1) (pre : List (Constituent × Int)) (p : Constituent × Int) (b : Block) (v1 : Int) (v6 : List Block) (v7 v8 : Int) (hp : Gd p) (hb : okb b) (hd : p.1.Dim ≤ 998) (hl : pre.length < 1000) :
    Fquadformref24_Constituents2.c0 k s0 s1 (outR pre p) v1 b.Size b.A b.B b.C v6 v7 v8 = s1 (outR pre (upd p b)) v6 v7 (IntKind.wrap .i64 (v8 + 1)) := by
  have hs := okb_size hb
  have hl1 : (pre.map (·.1)).length < 1000000 := by simp; omega
  have e1 : elt (outR pre p) (IntKind.wrap .i64 (((outR pre p).length : Int) - 1)) = some p.1 := elt_last _ _ hl1
  have s1' : ∀ c, List.set (outR pre p) (IntKind.wrap .i64 (((outR pre p).length : Int) - 1)).toNat c = pre.map (·.1) ++ [c] := fun c => set_last _ _ _ hl1
  have s3' : ∀ c d, List.set (pre.map (·.1) ++ [c]) (IntKind.wrap .i64 (((outR pre p).length : Int) - 1)).toNat d = pre.map (·.1) ++ [d] := fun c d => by
    have : (outR pre p).length = (pre.map (·.1) ++ [c]).length := by simp [outR]
    rw [this]; exact set_last _ _ _ hl1
  have d0 := hp.dim0
  have o0 := hp.odd0; have o8 := hp.odd8
  have hdm := (det_mul hp.det (bdet_odd hb)).2
  have hdim : IntKind.wrap .i64 (p.1.Dim + b.Size) = p.1.Dim + b.Size := wrap_id (by omega) (by omega)
  have hneg : IntKind.wrap .i64 (0 - p.1.Sign) = -(sg p.2) := by
    rw [hp.sign]
    unfold sg; split <;> decide
  have hsg := hp.sign
  unfold Fquadformref24_Constituents2.c0
  simp only [e1, Option.bind_some, mod8_eq, s1', s3', hdim, hneg]
  have fin : ∀ c : Constituent, c = (upd p b).1 → s1 (pre.map (·.1) ++ [c]) v6 v7 (IntKind.wrap .i64 (v8 + 1)) = s1 (outR pre (upd p b)) v6 v7 (IntKind.wrap .i64 (v8 + 1)) := by
    intro c hc; subst hc; rfl
  rcases hs with hs | hs
  · have hodd : Int.tmod (IntKind.wrap .i64 (p.1.Oddity + b.A % 8)) 8 = (p.1.Oddity + b.A % 8) % 8 := by
      rw [wrap_id (by omega) (by omega), tmod8 (by omega)]
    have hbd : bdet b = b.A % 8 := if_pos hs
    have hu : (upd p b).1 = ⟨p.1.Exp, p.1.Dim + b.Size, if b.A % 8 = 3 ∨ b.A % 8 = 5 then -(sg p.2) else sg p.2, true, (p.1.Oddity + b.A % 8) % 8⟩ := by
      rw [hbd] at hdm
      simp only [upd, hbd, hdm, if_pos hs]
      simp [hs]
    rw [if_pos hs, hodd]
    by_cases h3 : b.A % 8 = 3
    · rw [if_pos h3]; exact fin _ (by rw [hu, if_pos (.inl h3)])
    rw [if_neg h3]
    by_cases h5 : b.A % 8 = 5
    · rw [if_pos h5]; exact fin _ (by rw [hu, if_pos (.inr h5)])
    rw [if_neg h5]
    exact fin _ (by rw [hu, if_neg (by omega), hsg])
  · have hs1 : ¬ b.Size = 1 := by omega
    have h1 := prod_bound b.A b.C
    have h2 := prod_bound b.B b.B
    have hbd : bdet b = (b.A % 8 * (b.C % 8) - b.B % 8 * (b.B % 8)) % 8 := if_neg hs1
    have hw : IntKind.wrap .i64 (IntKind.wrap .i64 (b.A % 8 * (b.C % 8)) - IntKind.wrap .i64 (b.B % 8 * (b.B % 8))) % 8 = bdet b := by
      rw [hbd, wrap_id (x := b.A % 8 * (b.C % 8)) (by omega) (by omega), wrap_id (x := b.B % 8 * (b.B % 8)) (by omega) (by omega), wrap_id (by omega) (by omega)]
    have hu : (upd p b).1 = ⟨p.1.Exp, p.1.Dim + b.Size, if bdet b = 3 ∨ bdet b = 5 then -(sg p.2) else sg p.2, p.1.Odd, p.1.Oddity⟩ := by
      simp only [upd, hdm, if_neg hs1]
      simp [hs1]
    rw [if_neg hs1, hw]
    by_cases h3 : bdet b = 3
    · rw [if_pos h3]; exact fin _ (by rw [hu, if_pos (.inl h3)])
    rw [if_neg h3]
    by_cases h5 : bdet b = 5
    · rw [if_pos h5]; exact fin _ (by rw [hu, if_pos (.inr h5)])
    rw [if_neg h5]
    exact fin _ (by rw [hu, if_neg (by omega), hsg])

open Fquadformref24_Constituents2 in
theorem l0bR_val (k : Nat) (L : List Block) (hL : L.length ≤ 8) : ∀ (r : List Block) (j n : Nat) (pre : List (Constituent × Int)) (p : Constituent × Int) (m : Int),
    r.length < j → L.drop n = r → n ≤ L.length → valid p.1.Exp r → Gd p → (∀ x ∈ pre, Gd x) → p.1.Dim ≤ m → 0 ≤ m → m + 2 * r.length ≤ 800 → pre.length + r.length ≤ 800 →
    Fquadformref24_Constituents2.l0b k j (outR pre p) L (L.length : Int) (n : Int) = some (.x1 ((runA pre p r).map (·.1))) := by
  intro r
  induction r with
  | nil =>
    intro j n pre p m hj hr hn hv hp hpre hd h0 h8 hl
    obtain ⟨j, rfl⟩ : ∃ i, j = i + 1 := ⟨j - 1, by simp at hj; omega⟩
    have hn' := drop_nil hr hn
    show l0b_b k (l0 k j) (l0b k j) _ _ _ _ = _
    unfold l0b_b
    rw [if_neg (by omega), outR_eq]
    rfl
  | cons b r ih =>
    intro j n pre p m hj hr hn hv hp hpre hd h0 h8 hl
    obtain ⟨j, rfl⟩ : ∃ i, j = i + 1 := ⟨j - 1, by simp at hj; omega⟩
    obtain ⟨g1, g2, g3, g4⟩ := drop_elt hr
    simp only [List.length_cons] at h8 hj hl
    simp only [valid] at hv
    obtain ⟨v1, v2, hb, v4⟩ := hv
    show l0b_b k (l0 k j) (l0b k j) _ _ _ _ = _
    unfold l0b_b
    rw [if_pos (by omega), g2, Option.bind_some, if_neg (by simp [outR]; omega)]
    have e1 : elt (outR pre p) (IntKind.wrap .i64 (((outR pre p).length : Int) - 1)) = some p.1 := elt_last _ _ (by simp; omega)
    rw [e1, Option.bind_some]
    have hw2 : IntKind.wrap .i64 ((n : Int) + 1) = ((n + 1 : Nat) : Int) := by rw [wrap_id (by omega) (by omega)]; omega
    obtain ⟨u1, u2, u3, u4, u5⟩ := gd_stepA (m := m) hp hpre hb (by omega) (by omega) (by omega) (by omega) (by omega)
    have key := ih j (n + 1) (stepA pre p b).1 (stepA pre p b).2 (m + 2) (by omega) g3 (by omega) (by rw [u4]; exact v4) u1 u2 (by omega) (by omega) (by omega) (by omega)
    by_cases e3 : b.Exp = p.1.Exp
    · rw [if_pos e3.symm, c0R_val k _ _ pre p b _ _ _ _ hp hb (by omega) (by omega), hw2]
      have : stepA pre p b = (pre, upd p b) := if_pos e3
      simp only [runA]
      rw [this] at key ⊢
      exact key
    · have hgn : Gd (new b.Exp) := good_new (by have := hp.exp0; omega) (by omega)
      rw [if_neg (fun h => e3 h.symm), if_pos (by simp [outR]; omega), outR_new, c0R_val k _ _ (pre ++ [p]) (new b.Exp) b _ _ _ _ hgn hb (by simp [new]) (by simp; omega), hw2]
      have : stepA pre p b = (pre ++ [p], upd (new b.Exp) b) := if_neg e3
      simp only [runA]
      rw [this] at key ⊢
      exact key

open Fquadformref24_Constituents2 in
theorem l0R_val (k j : Nat) (b : Block) (r : List Block) (hL : (b :: r).length ≤ 8) (hv : valid 0 (b :: r)) (hj : (b :: r).length < j) :
    Fquadformref24_Constituents2.l0 k j (b :: r) ((b :: r).length : Int) 0 = some (.x1 ((runL (b :: r)).map (·.1))) := by
  obtain ⟨j, rfl⟩ : ∃ i, j = i + 1 := ⟨j - 1, by simp at hj; omega⟩
  have hv' := hv
  simp only [valid] at hv'
  obtain ⟨w1, w2, hb, w4⟩ := hv'
  have hs := okb_size hb
  show l0_b k (l0 k j) (l0b k j) _ _ _ = _
  unfold l0_b
  rw [if_pos (by simp), show elt (b :: r) 0 = some b from rfl, Option.bind_some]
  have hf := c0R_val k (l0 k j) (l0b k j) [] (new b.Exp) b b.Exp (b :: r) ((b :: r).length : Int) 0 (good_new w1 w2) hb (by simp [new]) (by simp)
  unfold c0 at hf
  refine hf.trans ?_
  have hw : IntKind.wrap .i64 (0 + 1) = ((1 : Nat) : Int) := rfl
  rw [hw]
  simp only [List.length_cons] at hj hL
  exact l0bR_val k (b :: r) (by simp; omega) r j 1 [] (upd (new b.Exp) b) 2 (by omega) rfl (by simp) w4 (good_upd (good_new w1 w2) hb (by simp [new])) (fun x hx => absurd hx (by simp)) (by simp [upd, new]; omega) (by omega) (by omega) (by simp; omega)

open Fquadformref24_listed in
theorem listed_val (k : Nat) (L : List Block) : ∀ (r : List Block) (j n : Nat) (s : Int), r.length < j → L.drop n = r → n ≤ L.length → n ≤ 8 → 0 ≤ s → s ≤ 2 * n →
    ∀ e, (n = 0 → e = 0) → (∀ m q, n = m + 1 → L[m]? = some q → e = q.Exp) → 0 ≤ e →
    Fquadformref24_listed.l0 k j L 2 s L (L.length : Int) (n : Int) = if valid e r ∧ L.length ≤ 8 then some (.x0 (s + sizes r)) else some (.ret false) := by
  intro r
  induction r with
  | nil =>
    intro j n s hj hr hn h8 s0 s1 e he he' hee
    obtain ⟨j, rfl⟩ : ∃ i, j = i + 1 := ⟨j - 1, by simp at hj; omega⟩
    have hn' := drop_nil hr hn
    show l0_b k (l0 k j) _ _ _ _ _ _ = _
    unfold l0_b
    rw [if_neg (by omega), if_pos ⟨trivial, by omega⟩]
    simp [sizes]
  | cons b r ih =>
    intro j n s hj hr hn h8 s0 s1 e he he' hee
    obtain ⟨j, rfl⟩ : ∃ i, j = i + 1 := ⟨j - 1, by simp at hj; omega⟩
    obtain ⟨g1, g2, g3, g4⟩ := drop_elt hr
    simp only [List.length_cons] at hj
    show l0_b k (l0 k j) _ _ _ _ _ _ = _
    unfold l0_b
    rw [if_pos (by omega), g2, Option.bind_some]
    by_cases n8 : (n : Int) ≥ 8
    · rw [if_pos n8, if_neg (by omega)]
    rw [if_neg n8, wellFormed_eq, Option.bind_some]
    by_cases hb : 0 ≤ b.Exp ∧ b.Exp ≤ 60 ∧ okb b
    case neg =>
      rw [if_neg (by simp only [decide_eq_true_eq]; exact hb), if_neg]
      rintro ⟨hv, -⟩
      simp only [valid] at hv
      exact hb ⟨by omega, hv.2.1, hv.2.2.1⟩
    have hs := okb_size hb.2.2
    rw [if_pos (by simp only [decide_eq_true_eq]; exact hb)]
    have hw2 : IntKind.wrap .i64 ((n : Int) + 1) = ((n + 1 : Nat) : Int) := by rw [wrap_id (by omega) (by omega)]; omega
    have hw3 : IntKind.wrap .i64 (s + b.Size) = s + b.Size := wrap_id (by omega) (by omega)
    rw [hw2, hw3]
    have key := ih j (n + 1) (s + b.Size) (by omega) g3 (by omega) (by omega) (by omega) (by omega) b.Exp (fun h => absurd h (by omega)) (fun m q hm hq => by
      have : m = n := by omega
      subst this
      rw [g4] at hq
      cases hq; rfl) hb.1
    have fin : e ≤ b.Exp → (if valid b.Exp r ∧ L.length ≤ 8 then some (O0.x0 (s + b.Size + sizes r)) else some (.ret false)) = (if valid e (b :: r) ∧ L.length ≤ 8 then some (O0.x0 (s + sizes (b :: r))) else some (.ret false)) := by
      intro hle
      have hv : valid e (b :: r) ↔ valid b.Exp r := by
        show (e ≤ b.Exp ∧ b.Exp ≤ 60 ∧ okb b ∧ valid b.Exp r) ↔ _
        constructor
        · intro h; exact h.2.2.2
        · intro h; exact ⟨by omega, hb.2.1, hb.2.2, h⟩
      simp only [hv, sizes, Int.add_assoc]
    cases n with
    | zero =>
      rw [if_neg (by simp)]
      have := he rfl
      exact key.trans (fin (by omega))
    | succ n =>
      rw [if_pos (by omega)]
      have hw1 : IntKind.wrap .i64 (((n + 1 : Nat) : Int) - 1) = (n : Int) := by rw [wrap_id (by omega) (by omega)]; omega
      rw [hw1, elt_nat]
      have hq : L[n]? = some L[n] := List.getElem?_eq_getElem (by omega)
      rw [hq, Option.bind_some]
      have hqe := he' n _ rfl hq
      by_cases hlt : b.Exp < L[n].Exp
      · rw [if_pos hlt, if_neg]
        rintro ⟨hv, -⟩
        simp only [valid] at hv
        omega
      · rw [if_neg hlt]
        exact key.trans (fin (by omega))

theorem sizes_pos : ∀ (r : List Block) (e : Int), valid e r → (r.length : Int) ≤ sizes r
  | [], _, _ => by simp [sizes]
  | b :: r, e, h => by
    simp only [valid] at h
    have := sizes_pos r _ h.2.2.2
    have hs := okb_size h.2.2.1
    simp only [sizes, List.length_cons]
    omega

theorem listed_eq (k : Nat) (L : List Block) (hk : L.length + 10 ≤ k) : Fquadformref24_listed k L 2 = some (decide (L.length ≤ 8 ∧ 1 ≤ L.length ∧ valid 0 L ∧ sizes L ≤ 8)) := by
  unfold Fquadformref24_listed Fquadformref24_listed.b
  have := listed_val k L L k 0 0 (by omega) rfl (by omega) (by omega) (by omega) (by omega) 0 (fun _ => rfl) (fun m q h => absurd h (by omega)) (by omega)
  have e0 : ((0 : Nat) : Int) = 0 := rfl
  rw [e0] at this
  rw [this]
  by_cases h : valid 0 L ∧ L.length ≤ 8
  case neg =>
    rw [if_neg h]
    show some false = _
    rw [decide_eq_false (fun hh => h ⟨hh.2.2.1, hh.1⟩)]
  rw [if_pos h]
  show Fquadformref24_listed.c0 k (0 + sizes L) = _
  unfold Fquadformref24_listed.c0
  rw [Int.zero_add]
  have hpos := sizes_pos L 0 h.1
  cases L with
  | nil => simp [sizes]
  | cons b r =>
    simp only [List.length_cons] at hpos h ⊢
    rw [if_pos (by omega)]
    congr 1
    rw [decide_eq_decide]
    constructor
    · intro h8; exact ⟨h.2, by omega, h.1, h8⟩
    · intro hh; exact hh.2.2.2

theorem ref_val (k : Nat) (v0 : Int) (v1 : List (List Int)) (L : List Block) (hk : L.length + 20 ≤ k) :
    Fquadformref24_Constituents2 k v0 v1 L = some (if meant v0 L then ((runL L).map (·.1), true) else ([], false)) := by
  unfold Fquadformref24_Constituents2 Fquadformref24_Constituents2.b
  by_cases h2 : v0 = 2
  case neg => rw [if_neg h2, if_neg (by simp [meant, h2])]
  rw [if_pos h2, listed_eq k L (by omega), Option.bind_some]
  by_cases hm : L.length ≤ 8 ∧ 1 ≤ L.length ∧ valid 0 L ∧ sizes L ≤ 8
  case neg =>
    rw [if_neg (by simp only [decide_eq_true_eq]; exact hm), if_neg (fun h => hm h.2)]
  rw [if_pos (by simp only [decide_eq_true_eq]; exact hm), if_pos ⟨h2, hm⟩]
  cases L with
  | nil => simp at hm
  | cons b r =>
    rw [l0R_val k k b r hm.1 hm.2.2.1 (by omega)]
    rfl

end Go.Cn
