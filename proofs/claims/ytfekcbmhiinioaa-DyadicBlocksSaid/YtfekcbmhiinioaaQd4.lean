/- The plain law of DyadicBlocks: the function whose result lives. -/
import Derived.Test.YtfekcbmhiinioaaQd3
set_option linter.unusedVariables false
noncomputable section
namespace Go.Cn

theorem c0_L (k : Nat) (s0 s1) (v0 : Int) (v1 : List (List Int)) (v2 : List Block) (pre : List (Constituent × Int)) (p : Constituent × Int) (b : Block) (v10 v11 : Int) (v12 : List Block) (v13 v14 : Int) (hp : Gd p) (hb : okb b) (hd : p.1.Dim ≤ 998) (hl : pre.length < 1000) :
    Fdyadic_ConstituentsL.c2 k s0 s1 v0 v1 v2 (outP pre p) (detP pre p) b.Exp b.Size b.A b.B b.C v10 v11 v12 v13 v14 = s1 v0 v1 v2 (outP pre (upd p b)) (detP pre (upd p b)) v10 v11 v12 v13 (IntKind.wrap .i64 (v14 + 1)) := by
  have hs : b.Size = 1 ∨ b.Size = 2 := by rcases hb with h | h <;> simp [h.1]
  have hl1 : (pre.map z).length < 1000000 := by simp; omega
  have hl2 : (pre.map (·.2)).length < 1000000 := by simp; omega
  have hlen : ((outP pre p).length : Int) = ((detP pre p).length : Int) := by simp [outP, detP]
  have e1 : elt (outP pre p) (IntKind.wrap .i64 (((outP pre p).length : Int) - 1)) = some (z p) := elt_last _ _ hl1
  have e2 : elt (detP pre p) (IntKind.wrap .i64 (((outP pre p).length : Int) - 1)) = some p.2 := by rw [hlen]; exact elt_last _ _ hl2
  have s1' : ∀ c, List.set (outP pre p) (IntKind.wrap .i64 (((outP pre p).length : Int) - 1)).toNat c = pre.map z ++ [c] := fun c => set_last _ _ _ hl1
  have s2' : ∀ c, List.set (detP pre p) (IntKind.wrap .i64 (((outP pre p).length : Int) - 1)).toNat c = pre.map (·.2) ++ [c] := fun c => by rw [hlen]; exact set_last _ _ _ hl2
  have s3' : ∀ c d, List.set (pre.map z ++ [c]) (IntKind.wrap .i64 (((outP pre p).length : Int) - 1)).toNat d = pre.map z ++ [d] := fun c d => by
    have : (outP pre p).length = (pre.map z ++ [c]).length := by simp [outP]
    rw [this]; exact set_last _ _ _ hl1
  have d0 := hp.dim0
  have o0 := hp.odd0; have o8 := hp.odd8
  unfold Fdyadic_ConstituentsL.c2
  simp only [e1, e2, Option.bind_some, s1', s2', s3', iand_7]
  have hdim : IntKind.wrap .i64 ((z p).Dim + b.Size) = p.1.Dim + b.Size := wrap_id (by simp only [z]; omega) (by simp only [z]; omega)
  rw [hdim]
  rcases hs with hs | hs
  · rw [if_pos hs]
    have hodd : IntKind.wrap .i64 ((z p).Oddity + b.A % 8) = p.1.Oddity + b.A % 8 := wrap_id (by simp only [z]; omega) (by simp only [z]; omega)
    have hdt := iand7_mul p.2 b.A hp.det
    rw [iand_7] at hdt
    rw [hodd, hdt]
    simp only [outP, detP, upd, bdet, hs, z, if_true, decide_true, Bool.or_true]
  · have hs1 : ¬ b.Size = 1 := by omega
    rw [if_neg hs1]
    have hdt := iand7_mul2 p.2 b.A b.B b.C hp.det
    rw [iand_7] at hdt
    rw [hdt]
    simp only [outP, detP, upd, bdet, hs1, z, if_false, decide_false, Bool.or_false]

open Fdyadic_ConstituentsL in
theorem l0b_L (k : Nat) (v0 : Int) (v1 : List (List Int)) (L : List Block) (hL : L.length ≤ 8) : ∀ (r : List Block) (j n : Nat) (pre : List (Constituent × Int)) (p : Constituent × Int) (s : Int) (q : Block),
    r.length < j → L.drop n = r → n ≤ L.length → 1 ≤ n → L[n - 1]? = some q → q.Exp = p.1.Exp → Gd p → (∀ x ∈ pre, Gd x) → p.1.Dim ≤ 2 * n → pre.length ≤ n → 0 ≤ s → s ≤ 2 * n →
    l0b k j v0 v1 L (outP pre p) (detP pre p) s p.1.Exp L (L.length : Int) (n : Int) =
      if valid p.1.Exp r then some (.x1 ((runA pre p r).map z) ((runA pre p r).map (·.2)) (s + sizes r)) else some (.ret (.s0 false)) := by
  intro r
  induction r with
  | nil =>
    intro j n pre p s q hj hr hn h1 hq hqe hp hpre hd hl s0 s1
    obtain ⟨j, rfl⟩ : ∃ i, j = i + 1 := ⟨j - 1, by simp at hj; omega⟩
    have hn' := drop_nil hr hn
    show l0b_b k (l0 k j) (l0b k j) v0 v1 L (outP pre p) (detP pre p) s p.1.Exp L (L.length : Int) (n : Int) = _
    unfold l0b_b c1
    rw [if_neg (by omega), if_pos (by simp [valid]), outP_eq, detP_eq]
    simp [runA, sizes]
  | cons b r ih =>
    intro j n pre p s q hj hr hn h1 hq hqe hp hpre hd hl s0 s1
    obtain ⟨j, rfl⟩ : ∃ i, j = i + 1 := ⟨j - 1, by simp at hj; omega⟩
    obtain ⟨g1, g2, g3, g4⟩ := drop_elt hr
    show l0b_b k (l0 k j) (l0b k j) v0 v1 L (outP pre p) (detP pre p) s p.1.Exp L (L.length : Int) (n : Int) = _
    unfold l0b_b c1
    rw [if_pos (by omega), g2, Option.bind_some]
    by_cases e1 : b.Exp < p.1.Exp
    · rw [if_pos e1, if_neg (by simp only [valid]; omega)]
    rw [if_neg e1]
    by_cases e2 : b.Exp > 60
    · rw [if_pos e2, if_neg (by simp only [valid]; omega)]
    rw [if_neg e2, proper_eq, Option.bind_some]
    by_cases hb : okb b
    case neg =>
      rw [if_neg (by simp [hb]), if_neg (by simp [valid, hb])]
    have hs := okb_size hb
    rw [if_pos (by simp [hb]), if_neg (by omega)]
    have hw1 : IntKind.wrap .i64 ((n : Int) - 1) = ((n - 1 : Nat) : Int) := by rw [wrap_id (by omega) (by omega)]; omega
    rw [hw1, elt_nat, hq, Option.bind_some, hqe]
    have hw2 : IntKind.wrap .i64 ((n : Int) + 1) = ((n + 1 : Nat) : Int) := by rw [wrap_id (by omega) (by omega)]; omega
    have hw3 : IntKind.wrap .i64 (s + b.Size) = s + b.Size := wrap_id (by omega) (by omega)
    obtain ⟨u1, u2, u3, u4, u5⟩ := gd_stepA (m := 2 * n) hp hpre hb (by omega) (by omega) (by omega) (by omega) (by omega)
    have key := ih j (n + 1) (stepA pre p b).1 (stepA pre p b).2 (s + b.Size) b (by simp at hj; omega) g3 (by omega) (by omega) (by simpa using g4) (by rw [u4]) u1 u2 (by omega) (by omega) (by omega) (by omega)
    rw [u4] at key
    have fin : (if valid b.Exp r then some (O0.x1 ((runA (stepA pre p b).1 (stepA pre p b).2 r).map z) ((runA (stepA pre p b).1 (stepA pre p b).2 r).map (·.2)) (s + b.Size + sizes r)) else some (.ret (.s0 false))) = (if valid p.1.Exp (b :: r) then some (O0.x1 ((runA pre p (b :: r)).map z) ((runA pre p (b :: r)).map (·.2)) (s + sizes (b :: r))) else some (.ret (.s0 false))) := by
      have hv : valid p.1.Exp (b :: r) ↔ valid b.Exp r := by
        show (p.1.Exp ≤ b.Exp ∧ b.Exp ≤ 60 ∧ okb b ∧ valid b.Exp r) ↔ _
        constructor
        · intro h; exact h.2.2.2
        · intro h; exact ⟨by omega, by omega, hb, h⟩
      simp only [hv, runA, sizes, Int.add_assoc]
    by_cases e3 : b.Exp = p.1.Exp
    · rw [if_pos e3, c0_L k _ _ v0 v1 L pre p b _ _ _ _ _ hp hb (by omega) (by omega), hw2, hw3]
      have : stepA pre p b = (pre, upd p b) := if_pos e3
      rw [this] at key fin
      exact key.trans fin
    · have l1' : (outP pre p).length < 1073741824 := by simp [outP]; omega
      have l2' : (detP pre p).length < 1073741824 := by simp [detP]; omega
      have hgn : Gd (new b.Exp) := good_new (by have := hp.exp0; omega) (by omega)
      rw [if_neg e3, if_pos l1', if_pos l2', outP_new, detP_new (e := b.Exp), c0_L k _ _ v0 v1 L (pre ++ [p]) (new b.Exp) b _ _ _ _ _ hgn hb (by simp [new]) (by simp; omega), hw2, hw3]
      have : stepA pre p b = (pre ++ [p], upd (new b.Exp) b) := if_neg e3
      rw [this] at key fin
      exact key.trans fin

open Fdyadic_ConstituentsL in
theorem l1b_L (k : Nat) : ∀ (rest : List (Constituent × Int)) (j : Nat) (done : List (Constituent × Int)), rest.length < j → (done ++ rest).length < 1000 → (∀ x ∈ rest, Gd x) →
    l1b k j (done.map (·.1) ++ rest.map z) ((done ++ rest).map (·.2)) ((done ++ rest).length : Int) (done.length : Int) = some (.x1 ((done ++ rest).map (·.1))) := by
  intro rest
  induction rest with
  | nil =>
    intro j done hj hl hg
    obtain ⟨j, rfl⟩ : ∃ i, j = i + 1 := ⟨j - 1, by simp at hj; omega⟩
    show l1b_b k (l1 k j) (l1b k j) _ _ _ _ = _
    unfold l1b_b
    rw [if_neg (by simp)]
    simp
  | cons p rest ih =>
    intro j done hj hl hg
    obtain ⟨j, rfl⟩ : ∃ i, j = i + 1 := ⟨j - 1, by simp at hj; omega⟩
    show l1b_b k (l1 k j) (l1b k j) _ _ _ _ = _
    have hp : Gd p := hg p (by simp)
    have e1 : elt (done.map (·.1) ++ (p :: rest).map z) (done.length : Int) = some (z p) := by
      have := elt_mid (done.map (·.1)) (rest.map z) (z p); simpa using this
    have e2 : elt ((done ++ p :: rest).map (·.2)) (done.length : Int) = some p.2 := by
      have := elt_mid (done.map (·.2)) (rest.map (·.2)) p.2; simpa using this
    have s1 : ∀ c d, List.set (done.map (·.1) ++ c :: rest.map z) ((done.length : Int)).toNat d = done.map (·.1) ++ d :: rest.map z := fun c d => by
      have := set_mid (done.map (·.1)) (rest.map z) c d; simp
    have hw : IntKind.wrap .i64 ((done.length : Int) + 1) = ((done ++ [p]).length : Int) := by
      rw [wrap_id (by omega) (by simp at hl; omega)]; simp
    have key := ih j (done ++ [p]) (by simp at hj; omega) (by simp at hl ⊢; omega) (fun x hx => hg x (by simp [hx]))
    have hcat : done ++ [p] ++ rest = done ++ p :: rest := by simp
    rw [hcat] at key
    have hsg : p.1 = Constituent.mk p.1.Exp p.1.Dim (sg p.2) p.1.Odd p.1.Oddity := by rw [← hp.sign]
    unfold l1b_b
    rw [if_pos (by simp; omega), e1, Option.bind_some, e2, Option.bind_some]
    simp only [List.map_cons, s1]
    rw [hw]
    have fin : ∀ c : Constituent, c = p.1 → l1b k j (done.map (·.1) ++ c :: rest.map z) ((done ++ p :: rest).map (·.2)) ((done ++ p :: rest).length : Int) ((done ++ [p]).length : Int) = some (.x1 ((done ++ p :: rest).map (·.1))) := by
      intro c hc
      subst hc
      rw [← key]
      simp
    rcases hp.det with h | h | h | h
    · rw [if_neg (by omega), if_neg (by omega)]
      exact fin _ (by rw [hsg, h]; rfl)
    · rw [if_pos h]
      exact fin _ (by rw [hsg, h]; rfl)
    · rw [if_neg (by omega), if_pos h]
      exact fin _ (by rw [hsg, h]; rfl)
    · rw [if_neg (by omega), if_neg (by omega)]
      exact fin _ (by rw [hsg, h]; rfl)

theorem c0_firstL (k : Nat) (s0 : Int → List (List Int) → List Block → Int → Int → List Block → Int → Int → Option Fdyadic_ConstituentsL.O0) (s1) (v0 : Int) (v1 : List (List Int)) (v2 : List Block) (b : Block) (v10 v11 : Int) (v12 : List Block) (v13 v14 : Int) (hb : okb b) (h0 : 0 ≤ b.Exp) (h60 : b.Exp ≤ 60) :
    Fdyadic_ConstituentsL.c2 k s0 s1 v0 v1 v2 [Constituent.mk b.Exp 0 0 false 0] [1] b.Exp b.Size b.A b.B b.C v10 v11 v12 v13 v14 = s1 v0 v1 v2 (outP [] (upd (new b.Exp) b)) (detP [] (upd (new b.Exp) b)) v10 v11 v12 v13 (IntKind.wrap .i64 (v14 + 1)) :=
  c0_L k s0 s1 v0 v1 v2 [] (new b.Exp) b v10 v11 v12 v13 v14 (good_new h0 h60) hb (by simp [new]) (by simp)

open Fdyadic_ConstituentsL in
theorem l0_L (k j : Nat) (v0 : Int) (v1 : List (List Int)) (b : Block) (r : List Block) (hL : (b :: r).length ≤ 8) (hj : (b :: r).length < j) :
    l0 k j v0 v1 (b :: r) 0 0 (b :: r) ((b :: r).length : Int) 0 = if valid 0 (b :: r) then some (.x1 ((runL (b :: r)).map z) ((runL (b :: r)).map (·.2)) (sizes (b :: r))) else some (.ret (.s0 false)) := by
  obtain ⟨j, rfl⟩ : ∃ i, j = i + 1 := ⟨j - 1, by simp at hj; omega⟩
  show l0_b k (l0 k j) (l0b k j) _ _ _ _ _ _ _ _ = _
  unfold l0_b c1
  rw [if_pos (by simp), show elt (b :: r) 0 = some b from rfl, Option.bind_some]
  by_cases e1 : b.Exp < 0
  · rw [if_pos e1, if_neg (by simp only [valid]; omega)]
  rw [if_neg e1]
  by_cases e2 : b.Exp > 60
  · rw [if_pos e2, if_neg (by simp only [valid]; omega)]
  rw [if_neg e2, proper_eq, Option.bind_some]
  by_cases hb : okb b
  case neg =>
    rw [if_neg (by simp [hb]), if_neg (by simp [valid, hb])]
  have hs := okb_size hb
  rw [if_pos (by simp [hb]), if_pos rfl]
  have hf := c0_firstL k (l0 k j) (l0b k j) v0 v1 (b :: r) b (IntKind.wrap .i64 (0 + b.Size)) b.Exp (b :: r) ((b :: r).length : Int) 0 hb (by omega) (by omega)
  unfold c2 at hf
  refine hf.trans ?_
  have hw3 : IntKind.wrap .i64 (0 + b.Size) = b.Size := by rw [Int.zero_add]; exact wrap_id (by omega) (by omega)
  have hw : IntKind.wrap .i64 (0 + 1) = ((1 : Nat) : Int) := rfl
  rw [hw3, hw]
  have hg := good_upd (good_new (e := b.Exp) (by omega) (by omega)) hb (by simp [new])
  have key := l0b_L k v0 v1 (b :: r) hL r j 1 [] (upd (new b.Exp) b) b.Size b (by simp at hj; omega) rfl (by simp) (by omega) rfl rfl hg (fun x hx => absurd hx (by simp)) (by simp [upd, new]; omega) (by simp) (by omega) (by omega)
  refine key.trans ?_
  have hv : valid 0 (b :: r) ↔ valid b.Exp r := by
    show (0 ≤ b.Exp ∧ b.Exp ≤ 60 ∧ okb b ∧ valid b.Exp r) ↔ _
    constructor
    · intro h; exact h.2.2.2
    · intro h; exact ⟨by omega, by omega, hb, h⟩
  have he : (upd (new b.Exp) b).1.Exp = b.Exp := rfl
  simp only [hv, runL, sizes, he]

theorem prog_L (k : Nat) (hk : 20 ≤ k) (v0 : Int) (v1 : List (List Int)) (L : List Block) :
    Fdyadic_ConstituentsL k v0 v1 L = some (if meant v0 L then .s1 ((runL L).map (·.1)) true else .s0 false) := by
  unfold Fdyadic_ConstituentsL Fdyadic_ConstituentsL.b Fdyadic_ConstituentsL.c0
  by_cases h2 : v0 = 2
  case neg => rw [if_neg h2, if_neg (by simp [meant, h2])]
  rw [if_pos h2]
  by_cases l1 : (L.length : Int) < 1
  · rw [if_pos l1, if_neg (by unfold meant; omega)]
  rw [if_neg l1]
  by_cases l8 : (L.length : Int) > 8
  · rw [if_pos l8, if_neg (by unfold meant; omega)]
  rw [if_neg l8]
  cases L with
  | nil => simp at l1
  | cons b r =>
    rw [l0_L k k v0 v1 b r (by omega) (by omega)]
    by_cases hv : valid 0 (b :: r)
    case neg => rw [if_neg hv, if_neg (by unfold meant; simp [hv])]; rfl
    rw [if_pos hv]
    show Fdyadic_ConstituentsL.c5 k _ _ _ = _
    unfold Fdyadic_ConstituentsL.c5
    by_cases h8 : sizes (b :: r) > 8
    · rw [if_pos h8, if_neg (by unfold meant; omega)]; rfl
    rw [if_neg h8, if_pos (by unfold meant; exact ⟨h2, by omega, by omega, hv, by omega⟩)]
    obtain ⟨hg, hlen⟩ := runL_good hv (by omega)
    have key := l1b_L k (runL (b :: r)) k [] (by omega) (by simp; omega) hg
    simp only [List.nil_append, List.map_nil, List.length_nil] at key
    have e0 : (((runL (b :: r)).map z).length : Int) = ((runL (b :: r)).length : Int) := by simp
    rw [e0]
    have key' : Fdyadic_ConstituentsL.l1b k k ((runL (b :: r)).map z) ((runL (b :: r)).map (·.2)) ((runL (b :: r)).length : Int) 0 = _ := key
    rw [key']
    rfl


end Go.Cn
