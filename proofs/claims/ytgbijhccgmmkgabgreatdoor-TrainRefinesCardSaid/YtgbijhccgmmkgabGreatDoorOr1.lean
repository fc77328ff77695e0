/- Lists of constituents in order: what the document asks. -/
import Derived.Test.YtgbijhccgmmkgabGreatDoorTf13m6
import Derived.Test.YtgbijhccgmmkgabGreatDoorTa1
set_option linter.unusedVariables false
noncomputable section
open Classical
namespace Go.Cn

def dims : List ua0 → Int
  | [] => 0
  | c :: r => c.Dim + dims r
def signed (c : ua0) : Prop := c.Sign = 1 ∨ c.Sign = -1
def bare (c : ua0) : Prop := c.Odd = false ∧ c.Oddity = 0
/-- as the document asks -/
def ascR (e s : Int) : List ua0 → Prop
  | [] => True
  | c :: r => e < c.Exp ∧ c.Exp ≤ 60 ∧ signed c ∧ 1 ≤ c.Dim ∧ c.Dim ≤ 8 - s ∧ ascR c.Exp (s + c.Dim) r

theorem ascR_dims : ∀ (r : List ua0) (e s : Int), ascR e s r → (r.length : Int) ≤ dims r ∧ (r = [] ∨ s + dims r ≤ 8)
  | [], _, _, _ => ⟨by simp [dims], .inl rfl⟩
  | c :: r, e, s, h => by
    simp only [ascR] at h
    obtain ⟨h1, h2⟩ := ascR_dims r _ _ h.2.2.2.2.2
    simp only [dims, List.length_cons]
    refine ⟨by omega, .inr ?_⟩
    rcases h2 with rfl | h2
    · simp only [dims]; omega
    · omega

theorem ascR_mem : ∀ {r : List ua0} {e s : Int}, 0 ≤ s → ascR e s r → ∀ c ∈ r, e < c.Exp ∧ c.Exp ≤ 60 ∧ signed c ∧ 1 ≤ c.Dim ∧ c.Dim ≤ 8
  | [], _, _, _, _, c, hc => by simp at hc
  | d :: r, e, s, hs, h, c, hc => by
    simp only [ascR] at h
    rcases List.mem_cons.1 hc with rfl | hc
    · exact ⟨h.1, h.2.1, h.2.2.1, h.2.2.2.1, by omega⟩
    · have := ascR_mem (r := r) (by omega) h.2.2.2.2.2 c hc
      exact ⟨by omega, this.2⟩

theorem ascR_snoc (z : ua0) (h60 : z.Exp ≤ 60) (hs : signed z) (hd : 1 ≤ z.Dim) : ∀ {M : List ua0} {y s : Int}, ascR y s M → (∀ m ∈ M, m.Exp < z.Exp) → y < z.Exp → z.Dim ≤ 8 - (s + dims M) → ascR y s (M ++ [z])
  | [], y, s, _, _, hy, h8 => by simp only [List.nil_append, ascR, dims] at h8 ⊢; exact ⟨hy, h60, hs, hd, by omega, trivial⟩
  | m :: M, y, s, h, hb, hy, h8 => by
    simp only [List.cons_append, ascR, dims] at h h8 ⊢
    exact ⟨h.1, h.2.1, h.2.2.1, h.2.2.2.1, h.2.2.2.2.1, ascR_snoc z h60 hs hd h.2.2.2.2.2 (fun x hx => hb x (by simp [hx])) (hb m (by simp)) (by omega)⟩

theorem dims_snoc : ∀ (L : List ua0) (c : ua0), dims (L ++ [c]) = dims L + c.Dim
  | [], c => by simp [dims]
  | d :: L, c => by simp only [List.cons_append, dims, dims_snoc L c]; omega

def ordR (L : List ua0) : Prop := ascR (-1) 0 L ∧ dims L > 0

theorem uj2 {L : List ua0} (h : ordR L) : 1 ≤ L.length ∧ L.length ≤ 8 ∧ dims L ≤ 8 := by
  obtain ⟨h1, h2⟩ := ascR_dims L _ _ h.1
  have hd := h.2
  rcases h2 with rfl | h2
  · simp [dims] at hd
  · refine ⟨?_, by omega, by omega⟩
    cases L with
    | nil => simp [dims] at hd
    | cons c L => simp

end Go.Cn
