/- The plain law of SymbolScale: scaled and dual symbols. -/
import Derived.Test.YtgmcadpldlinpaaGreatDoorQt4
set_option linter.unusedVariables false
noncomputable section
open Classical
namespace Go.Cn

def mv (x : Int) (c : Constituent) : Constituent := ⟨x, c.Dim, c.Sign, c.Odd, c.Oddity⟩
def shift (e : Int) (c : Constituent) : Constituent := mv (c.Exp + e) c
def flip (e : Int) (c : Constituent) : Constituent := mv (e - c.Exp) c

theorem asc_bounds : ∀ {M : List Constituent} {y : Int}, ascP y M → ∀ c ∈ M, y < c.Exp ∧ c.Exp ≤ 60
  | [], _, _, c, hc => by simp at hc
  | d :: M, y, h, c, hc => by
    simp only [ascP] at h
    rcases List.mem_cons.1 hc with rfl | hc
    · exact ⟨h.1, h.2.1⟩
    · have := asc_bounds h.2.2.2.2.2.2 c hc
      exact ⟨by omega, this.2⟩

theorem asc_shift (e : Int) : ∀ {L : List Constituent} {x y : Int}, ascP x L → (∀ c ∈ L, y < c.Exp + e ∧ c.Exp + e ≤ 60) → ascP y (L.map (shift e))
  | [], _, _, _, _ => trivial
  | c :: r, x, y, h, hb => by
    simp only [ascP] at h
    obtain ⟨a1, a2, a3, a4, a5, a6, a7⟩ := h
    have hc := hb c (by simp)
    simp only [List.map_cons, ascP]
    refine ⟨hc.1, hc.2, a3, a4, a5, a6, asc_shift e a7 fun d hd => ?_⟩
    have h1 := asc_bounds a7 d hd
    have h2 := hb d (by simp [hd])
    exact ⟨by show c.Exp + e < d.Exp + e; omega, h2.2⟩

theorem asc_snoc (z : Constituent) (h60 : z.Exp ≤ 60) (hz : 1 ≤ z.Dim ∧ z.Dim ≤ 8 ∧ signed z ∧ bare z) : ∀ {M : List Constituent} {y : Int}, ascP y M → (∀ m ∈ M, m.Exp < z.Exp) → y < z.Exp → ascP y (M ++ [z])
  | [], y, _, _, hy => by simp only [List.nil_append, ascP]; exact ⟨hy, h60, hz.1, hz.2.1, hz.2.2.1, hz.2.2.2, trivial⟩
  | m :: M, y, h, hb, hy => by
    simp only [List.cons_append, ascP] at h ⊢
    exact ⟨h.1, h.2.1, h.2.2.1, h.2.2.2.1, h.2.2.2.2.1, h.2.2.2.2.2.1, asc_snoc z h60 hz h.2.2.2.2.2.2 (fun x hx => hb x (by simp [hx])) (hb m (by simp))⟩

theorem asc_flip (e : Int) : ∀ {L : List Constituent} {x y : Int}, ascP x L → (∀ c ∈ L, y < e - c.Exp ∧ e - c.Exp ≤ 60) → ascP y (L.reverse.map (flip e))
  | [], _, _, _, _ => trivial
  | c :: r, x, y, h, hb => by
    simp only [ascP] at h
    obtain ⟨a1, a2, a3, a4, a5, a6, a7⟩ := h
    have hc := hb c (by simp)
    simp only [List.reverse_cons, List.map_append, List.map_cons, List.map_nil]
    refine asc_snoc (flip e c) hc.2 ⟨a3, a4, a5, a6⟩ (asc_flip e a7 fun d hd => hb d (by simp [hd])) (fun m hm => ?_) hc.1
    obtain ⟨d, hd, rfl⟩ := List.mem_map.1 hm
    have h1 := asc_bounds a7 d (by simpa using hd)
    show e - d.Exp < e - c.Exp
    omega

theorem dims_map (f : Constituent → Constituent) (hf : ∀ c, (f c).Dim = c.Dim) : ∀ (L : List Constituent), dims (L.map f) = dims L
  | [] => rfl
  | c :: L => by simp only [List.map_cons, dims, hf, dims_map f hf L]
theorem dims_app : ∀ (L M : List Constituent), dims (L ++ M) = dims L + dims M
  | [], M => by simp [dims]
  | c :: L, M => by simp only [List.cons_append, dims, dims_app L M]; omega
theorem dims_rev : ∀ (L : List Constituent), dims L.reverse = dims L
  | [] => rfl
  | c :: L => by simp only [List.reverse_cons, dims_app, dims_rev L, dims]; omega

def fitS (e : Int) (L : List Constituent) : Prop := ∀ c ∈ L, 0 ≤ c.Exp + e ∧ c.Exp + e ≤ 60
def fitD (e : Int) (L : List Constituent) : Prop := ∀ c ∈ L, 0 ≤ e - c.Exp ∧ e - c.Exp ≤ 60

theorem sym_shift {p e : Int} {L : List Constituent} (h : symP p L) : symP p (L.map (shift e)) ↔ fitS e L := by
  obtain ⟨h1, h2, h3, h4, h5⟩ := h
  constructor
  · intro g c hc
    have := asc_bounds g.2.2.2.1 (shift e c) (List.mem_map_of_mem hc)
    exact ⟨by have := this.1; change -1 < c.Exp + e at this; omega, this.2⟩
  · intro g
    exact ⟨h1, by simpa using h2, by simpa using h3, asc_shift e h4 fun c hc => ⟨by have := (g c hc).1; omega, (g c hc).2⟩, by rw [dims_map (shift e) (fun _ => rfl)]; exact h5⟩
theorem sym_flip {p e : Int} {L : List Constituent} (h : symP p L) : symP p (L.reverse.map (flip e)) ↔ fitD e L := by
  obtain ⟨h1, h2, h3, h4, h5⟩ := h
  constructor
  · intro g c hc
    have := asc_bounds g.2.2.2.1 (flip e c) (List.mem_map_of_mem (by simpa using hc))
    exact ⟨by have := this.1; change -1 < e - c.Exp at this; omega, this.2⟩
  · intro g
    exact ⟨h1, by simpa using h2, by simpa using h3, asc_flip e h4 fun c hc => ⟨by have := (g c hc).1; omega, (g c hc).2⟩, by rw [dims_map (flip e) (fun _ => rfl), dims_rev]; exact h5⟩

/-! ### the loops of Scale -/
open Fsymbol_Scale in
theorem scP_loop (k : Nat) (z p e : Int) (he : -9223372036854775808 ≤ e ∧ e ≤ 9223372036854775807) (L : List Constituent) (hL : L.length ≤ 8) (hb : ∀ c ∈ L, 0 ≤ c.Exp ∧ c.Exp ≤ 60) : ∀ (r : List Constituent) (j n : Nat) (out : List Constituent), r.length < j → L.drop n = r → n ≤ L.length → out.length ≤ n →
    Fsymbol_Scale.l0b k j z p out e L (L.length : Int) (n : Int) = if fitS e r then some (.x1 z p (out ++ r.map (shift e))) else some (.ret (0, [], 1)) := by
  intro r
  induction r with
  | nil =>
    intro j n out hj hr hn ho
    obtain ⟨j, rfl⟩ : ∃ i, j = i + 1 := ⟨j - 1, by simp at hj; omega⟩
    have hn' := drop_nilS hr hn
    show l0b_b k (l0 k j) (l0b k j) _ _ _ _ _ _ _ = _
    unfold l0b_b
    rw [if_neg (by omega), if_pos (show fitS e [] from fun c hc => absurd hc (by simp))]
    simp
  | cons c r ih =>
    intro j n out hj hr hn ho
    obtain ⟨j, rfl⟩ : ∃ i, j = i + 1 := ⟨j - 1, by simp at hj; omega⟩
    obtain ⟨g1, g2, g3, g4⟩ := drop_eltS hr
    simp only [List.length_cons] at hj
    have hc := hb c (List.mem_of_getElem? g4)
    have hw2 : IntKind.wrap .i64 ((n : Int) + 1) = ((n + 1 : Nat) : Int) := by rw [wrap_id (by omega) (by omega)]; omega
    have w1 : IntKind.wrap .i64 (0 - c.Exp) = 0 - c.Exp := wrap_id (by omega) (by omega)
    have w2 : IntKind.wrap .i64 (60 - c.Exp) = 60 - c.Exp := wrap_id (by omega) (by omega)
    show l0b_b k (l0 k j) (l0b k j) _ _ _ _ _ _ _ = _
    unfold l0b_b
    rw [if_pos (by omega), g2, Option.bind_some, w1, w2]
    by_cases e1 : e < 0 - c.Exp
    · rw [if_pos e1, if_neg (fun h => by have := h c (by simp); omega)]
    rw [if_neg e1]
    by_cases e2 : e > 60 - c.Exp
    · rw [if_pos e2, if_neg (fun h => by have := h c (by simp); omega)]
    have w3 : IntKind.wrap .i64 (c.Exp + e) = c.Exp + e := wrap_id (by omega) (by omega)
    rw [if_neg e2, if_pos (by omega), w3, hw2, ih j (n + 1) _ (by omega) g3 (by omega) (by simp; omega)]
    have hiff : fitS e (c :: r) ↔ fitS e r := by
      constructor
      · intro h x hx; exact h x (by simp [hx])
      · intro h x hx
        rcases List.mem_cons.1 hx with rfl | hx
        · omega
        · exact h x hx
    simp only [hiff, List.map_cons, List.append_assoc, List.singleton_append]
    rfl

open Fquadformref26_Scale in
theorem scR_loop (k : Nat) (z p e : Int) (he : -60 ≤ e ∧ e ≤ 60) (L : List Constituent) (hL : L.length ≤ 8) (hb : ∀ c ∈ L, 0 ≤ c.Exp ∧ c.Exp ≤ 60) : ∀ (r : List Constituent) (j n : Nat) (out : List Constituent), r.length < j → L.drop n = r → n ≤ L.length → out.length ≤ n →
    Fquadformref26_Scale.l0b k j z p out e L (L.length : Int) (n : Int) = some (.x1 z p (out ++ r.map (shift e))) := by
  intro r
  induction r with
  | nil =>
    intro j n out hj hr hn ho
    obtain ⟨j, rfl⟩ : ∃ i, j = i + 1 := ⟨j - 1, by simp at hj; omega⟩
    have hn' := drop_nilS hr hn
    show l0b_b k (l0 k j) (l0b k j) _ _ _ _ _ _ _ = _
    unfold l0b_b
    rw [if_neg (by omega)]
    simp
  | cons c r ih =>
    intro j n out hj hr hn ho
    obtain ⟨j, rfl⟩ : ∃ i, j = i + 1 := ⟨j - 1, by simp at hj; omega⟩
    obtain ⟨g1, g2, g3, g4⟩ := drop_eltS hr
    simp only [List.length_cons] at hj
    have hc := hb c (List.mem_of_getElem? g4)
    have hw2 : IntKind.wrap .i64 ((n : Int) + 1) = ((n + 1 : Nat) : Int) := by rw [wrap_id (by omega) (by omega)]; omega
    have w3 : IntKind.wrap .i64 (c.Exp + e) = c.Exp + e := wrap_id (by omega) (by omega)
    show l0b_b k (l0 k j) (l0b k j) _ _ _ _ _ _ _ = _
    unfold l0b_b
    rw [if_pos (by omega), g2, Option.bind_some, if_pos (by omega), w3, hw2, ih j (n + 1) _ (by omega) g3 (by omega) (by simp; omega)]
    simp only [List.map_cons, List.append_assoc, List.singleton_append]
    rfl

end Go.Cn
