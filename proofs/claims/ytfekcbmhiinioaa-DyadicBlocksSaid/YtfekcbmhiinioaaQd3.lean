/- The plain law of DyadicConstituents: the first program's answer. -/
import Derived.Test.YtfekcbmhiinioaaQd2
set_option linter.unusedVariables false
noncomputable section
namespace Go.Cn

theorem elt_mid {α : Type} (l r : List α) (a : α) : elt (l ++ a :: r) (l.length : Int) = some a := by
  rw [elt_nat, List.getElem?_append_right (Nat.le_refl _)]; simp
theorem set_mid {α : Type} (l r : List α) (a b : α) : List.set (l ++ a :: r) ((l.length : Int)).toNat b = l ++ b :: r := by
  rw [Int.toNat_natCast, List.set_append_right _ _ (Nat.le_refl _)]; simp

open Fdyadic_Constituents in
theorem l1b_val (k : Nat) : ∀ (rest : List (Constituent × Int)) (j : Nat) (done : List (Constituent × Int)), rest.length < j → (done ++ rest).length < 1000 → (∀ x ∈ rest, Gd x) →
    l1b k j (done.map (·.1) ++ rest.map z) ((done ++ rest).map (·.2)) ((done ++ rest).length : Int) (done.length : Int) = some (.x1 ((done ++ rest).map (·.1))) := by
  intro rest
  induction rest with
  | nil =>
    intro j done hj hl hg
    obtain ⟨j, rfl⟩ : ∃ i, j = i + 1 := ⟨j - 1, by simp at hj; omega⟩
    show l1b_b k (l1 k j) (l1b k j) _ _ _ _ = _
    unfold l1b_b
    rw [if_neg (by simp)]
    simp
  | cons p rest ih =>
    intro j done hj hl hg
    obtain ⟨j, rfl⟩ : ∃ i, j = i + 1 := ⟨j - 1, by simp at hj; omega⟩
    show l1b_b k (l1 k j) (l1b k j) _ _ _ _ = _
    have hp : Gd p := hg p (by simp)
    have e1 : elt (done.map (·.1) ++ (p :: rest).map z) (done.length : Int) = some (z p) := by
      have := elt_mid (done.map (·.1)) (rest.map z) (z p); simpa using this
    have e2 : elt ((done ++ p :: rest).map (·.2)) (done.length : Int) = some p.2 := by
      have := elt_mid (done.map (·.2)) (rest.map (·.2)) p.2; simpa using this
    have s1 : ∀ c d, List.set (done.map (·.1) ++ c :: rest.map z) ((done.length : Int)).toNat d = done.map (·.1) ++ d :: rest.map z := fun c d => by
      have := set_mid (done.map (·.1)) (rest.map z) c d; simp
    have hw : IntKind.wrap .i64 ((done.length : Int) + 1) = ((done ++ [p]).length : Int) := by
      rw [wrap_id (by omega) (by simp at hl; omega)]; simp
    have key := ih j (done ++ [p]) (by simp at hj; omega) (by simp at hl ⊢; omega) (fun x hx => hg x (by simp [hx]))
    have hcat : done ++ [p] ++ rest = done ++ p :: rest := by simp
    rw [hcat] at key
    have hsg : p.1 = Constituent.mk p.1.Exp p.1.Dim (sg p.2) p.1.Odd p.1.Oddity := by rw [← hp.sign]
    unfold l1b_b
    rw [if_pos (by simp; omega), e1, Option.bind_some, e2, Option.bind_some]
    simp only [List.map_cons, s1]
    rw [hw]
    have fin : ∀ c : Constituent, c = p.1 → l1b k j (done.map (·.1) ++ c :: rest.map z) ((done ++ p :: rest).map (·.2)) ((done ++ p :: rest).length : Int) ((done ++ [p]).length : Int) = some (.x1 ((done ++ p :: rest).map (·.1))) := by
      intro c hc
      subst hc
      rw [← key]
      simp
    rcases hp.det with h | h | h | h
    · rw [if_neg (by omega), if_neg (by omega)]
      exact fin _ (by rw [hsg, h]; rfl)
    · rw [if_pos h]
      exact fin _ (by rw [hsg, h]; rfl)
    · rw [if_neg (by omega), if_pos h]
      exact fin _ (by rw [hsg, h]; rfl)
    · rw [if_neg (by omega), if_neg (by omega)]
      exact fin _ (by rw [hsg, h]; rfl)

theorem runA_good : ∀ (r : List Block) (pre : List (Constituent × Int)) (p : Constituent × Int) (m : Int), Gd p → (∀ x ∈ pre, Gd x) → valid p.1.Exp r → p.1.Dim ≤ m → 0 ≤ m → m + 2 * r.length ≤ 900 → (∀ x ∈ runA pre p r, Gd x) ∧ (runA pre p r).length ≤ pre.length + 1 + r.length := by
  intro r
  induction r with
  | nil =>
    intro pre p m hp hpre hv hd h0 h9
    refine ⟨?_, by simp [runA]⟩
    intro x hx
    rcases List.mem_append.1 hx with hx | hx
    · exact hpre x hx
    · simp at hx; subst hx; exact hp
  | cons b r ih =>
    intro pre p m hp hpre hv hd h0 h9
    simp only [valid] at hv
    simp only [List.length_cons] at h9 ⊢
    obtain ⟨u1, u2, u3, u4, u5⟩ := gd_stepA (m := m) hp hpre hv.2.2.1 hd h0 (by omega) hv.1 hv.2.1
    have := ih (stepA pre p b).1 (stepA pre p b).2 (m + 2) u1 u2 (by rw [u4]; exact hv.2.2.2) u3 (by omega) (by omega)
    refine ⟨this.1, ?_⟩
    have h2 := this.2
    simp only [runA]
    omega

/-- the constituents of a list of blocks, each with its determinant -/
def runL : List Block → List (Constituent × Int)
  | [] => []
  | b :: r => runA [] (upd (new b.Exp) b) r

theorem valid_mono : ∀ (r : List Block) {e e' : Int}, e ≤ e' → valid e' r → valid e r
  | [], _, _, _, _ => trivial
  | b :: r, e, e', h, hv => by
    simp only [valid] at hv ⊢
    exact ⟨by omega, hv.2⟩

def meant (v0 : Int) (L : List Block) : Prop := v0 = 2 ∧ L.length ≤ 8 ∧ 1 ≤ L.length ∧ valid 0 L ∧ sizes L ≤ 8
instance (v0 L) : Decidable (meant v0 L) := by unfold meant; exact inferInstance

theorem c0_first (k : Nat) (s0 : Int → List (List Int) → List Block → Int → Int → List Block → Int → Int → Option Fdyadic_Constituents.O0) (s1) (v0 : Int) (v1 : List (List Int)) (v2 : List Block) (b : Block) (v10 v11 : Int) (v12 : List Block) (v13 v14 : Int) (hb : okb b) (h0 : 0 ≤ b.Exp) (h60 : b.Exp ≤ 60) :
    Fdyadic_Constituents.c0 k s0 s1 v0 v1 v2 [Constituent.mk b.Exp 0 0 false 0] [1] b.Exp b.Size b.A b.B b.C v10 v11 v12 v13 v14 = s1 v0 v1 v2 (outP [] (upd (new b.Exp) b)) (detP [] (upd (new b.Exp) b)) v10 v11 v12 v13 (IntKind.wrap .i64 (v14 + 1)) :=
  c0_val k s0 s1 v0 v1 v2 [] (new b.Exp) b v10 v11 v12 v13 v14 (good_new h0 h60) hb (by simp [new]) (by simp)

open Fdyadic_Constituents in
theorem l0_val (k j : Nat) (v0 : Int) (v1 : List (List Int)) (b : Block) (r : List Block) (hL : (b :: r).length ≤ 8) (hj : (b :: r).length < j) :
    l0 k j v0 v1 (b :: r) 0 0 (b :: r) ((b :: r).length : Int) 0 = if valid 0 (b :: r) then some (.x1 ((runL (b :: r)).map z) ((runL (b :: r)).map (·.2)) (sizes (b :: r))) else some (.ret ([], false)) := by
  obtain ⟨j, rfl⟩ : ∃ i, j = i + 1 := ⟨j - 1, by simp at hj; omega⟩
  show l0_b k (l0 k j) (l0b k j) _ _ _ _ _ _ _ _ = _
  unfold l0_b
  rw [if_pos (by simp), show elt (b :: r) 0 = some b from rfl, Option.bind_some]
  by_cases e1 : b.Exp < 0
  · rw [if_pos e1, if_neg (by simp only [valid]; omega)]
  rw [if_neg e1]
  by_cases e2 : b.Exp > 60
  · rw [if_pos e2, if_neg (by simp only [valid]; omega)]
  rw [if_neg e2, proper_eq, Option.bind_some]
  by_cases hb : okb b
  case neg =>
    rw [if_neg (by simp [hb]), if_neg (by simp [valid, hb])]
  have hs := okb_size hb
  rw [if_pos (by simp [hb]), if_pos rfl]
  have hf := c0_first k (l0 k j) (l0b k j) v0 v1 (b :: r) b (IntKind.wrap .i64 (0 + b.Size)) b.Exp (b :: r) ((b :: r).length : Int) 0 hb (by omega) (by omega)
  unfold c0 at hf
  refine hf.trans ?_
  have hw3 : IntKind.wrap .i64 (0 + b.Size) = b.Size := by rw [Int.zero_add]; exact wrap_id (by omega) (by omega)
  have hw : IntKind.wrap .i64 (0 + 1) = ((1 : Nat) : Int) := rfl
  rw [hw3, hw]
  have hg := good_upd (good_new (e := b.Exp) (by omega) (by omega)) hb (by simp [new])
  have key := l0b_val k v0 v1 (b :: r) hL r j 1 [] (upd (new b.Exp) b) b.Size b (by simp at hj; omega) rfl (by simp) (by omega) rfl rfl hg (fun x hx => absurd hx (by simp)) (by simp [upd, new]; omega) (by simp) (by omega) (by omega)
  refine key.trans ?_
  have hv : valid 0 (b :: r) ↔ valid b.Exp r := by
    show (0 ≤ b.Exp ∧ b.Exp ≤ 60 ∧ okb b ∧ valid b.Exp r) ↔ _
    constructor
    · intro h; exact h.2.2.2
    · intro h; exact ⟨by omega, by omega, hb, h⟩
  have he : (upd (new b.Exp) b).1.Exp = b.Exp := rfl
  simp only [hv, runL, sizes, he]

theorem runL_good {L : List Block} (h : valid 0 L) (hl : L.length ≤ 8) : (∀ x ∈ runL L, Gd x) ∧ (runL L).length ≤ 10 := by
  cases L with
  | nil => exact ⟨fun x hx => absurd hx (by simp [runL]), by simp [runL]⟩
  | cons b r =>
    simp only [valid] at h
    simp only [List.length_cons] at hl
    have hs := okb_size h.2.2.1
    have := runA_good r [] (upd (new b.Exp) b) 2 (good_upd (good_new h.1 h.2.1) h.2.2.1 (by simp [new])) (fun x hx => absurd hx (by simp)) h.2.2.2 (by simp [upd, new]; omega) (by omega) (by omega)
    exact ⟨this.1, by have h2 := this.2; simp only [runL, List.length_nil] at h2 ⊢; omega⟩

theorem prog_val (k : Nat) (hk : 20 ≤ k) (v0 : Int) (v1 : List (List Int)) (L : List Block) :
    Fdyadic_Constituents k v0 v1 L = some (if meant v0 L then ((runL L).map (·.1), true) else ([], false)) := by
  unfold Fdyadic_Constituents Fdyadic_Constituents.b
  by_cases h2 : v0 = 2
  case neg => rw [if_neg h2, if_neg (by simp [meant, h2])]
  rw [if_pos h2]
  by_cases l1 : (L.length : Int) < 1
  · rw [if_pos l1, if_neg (by unfold meant; omega)]
  rw [if_neg l1]
  by_cases l8 : (L.length : Int) > 8
  · rw [if_pos l8, if_neg (by unfold meant; omega)]
  rw [if_neg l8]
  cases L with
  | nil => simp at l1
  | cons b r =>
    rw [l0_val k k v0 v1 b r (by omega) (by omega)]
    by_cases hv : valid 0 (b :: r)
    case neg => rw [if_neg hv, if_neg (by unfold meant; simp [hv])]; rfl
    rw [if_pos hv]
    show Fdyadic_Constituents.c3 k _ _ _ = _
    unfold Fdyadic_Constituents.c3
    by_cases h8 : sizes (b :: r) > 8
    · rw [if_pos h8, if_neg (by unfold meant; omega)]
    rw [if_neg h8, if_pos (by unfold meant; exact ⟨h2, by omega, by omega, hv, by omega⟩)]
    obtain ⟨hg, hlen⟩ := runL_good hv (by omega)
    have key := l1b_val k (runL (b :: r)) k [] (by omega) (by simp; omega) hg
    simp only [List.nil_append, List.map_nil, List.length_nil] at key
    have e0 : (((runL (b :: r)).map z).length : Int) = ((runL (b :: r)).length : Int) := by simp
    rw [e0]
    have key' : Fdyadic_Constituents.l1b k k ((runL (b :: r)).map z) ((runL (b :: r)).map (·.2)) ((runL (b :: r)).length : Int) 0 = _ := key
    rw [key']
    rfl

end Go.Cn
