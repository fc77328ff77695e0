/- Lists of indices: the maximal runs of members that are joined. -/
import Derived.Test.YtgbijhccgmmkgabGreatDoorTy13
import Derived.Test.YtgbijhccgmmkgabGreatDoorPl1
set_option linter.unusedVariables false
noncomputable section
namespace Go.Cn

def ati (L : List ua0) (i : Int) : ua0 := L.getD i.toNat default
theorem ui4 {L : List ua0} {i : Int} (h0 : 0 ≤ i) (h : i < (L.length : Int)) : elt L i = some (ati L i) := by
  unfold elt ati
  rw [if_pos h0, List.getD_eq_getElem?_getD, List.getElem?_eq_getElem (by omega)]
  rfl
theorem ati_nat {L : List ua0} {n : Nat} (h : n < L.length) : ati L (n : Int) = L[n] := by
  unfold ati
  rw [Int.toNat_natCast, List.getD_eq_getElem?_getD, List.getElem?_eq_getElem h]
  rfl
theorem ue8 {α : Type} {L r : List α} {b : α} {n : Nat} (h : L.drop n = b :: r) : n < L.length ∧ elt L (n : Int) = some b ∧ L.drop (n + 1) = r ∧ L[n]? = some b := by
  have h1 : n < L.length := by
    have := congrArg List.length h
    simp at this; omega
  have h2 : L[n]? = some b := by
    have := List.getElem?_drop (xs := L) (i := n) (j := 0)
    rw [h] at this
    simpa using this.symm
  refine ⟨h1, by rw [elt_nat]; exact h2, ?_, h2⟩
  have : L.drop (n + 1) = (L.drop n).drop 1 := by rw [List.drop_drop]
  rw [this, h]; rfl
theorem uh1 {α : Type} {L : List α} {n : Nat} (h : L.drop n = []) (h' : n ≤ L.length) : n = L.length := by
  have := List.drop_eq_nil_iff.1 h; omega
theorem drop_ati {L r : List ua0} {b : ua0} {n : Nat} (h : L.drop n = b :: r) : b = ati L (n : Int) := by
  obtain ⟨h1, _, _, h4⟩ := ue8 h
  rw [ati_nat h1]
  rw [List.getElem?_eq_getElem h1] at h4
  exact (Option.some.inj h4).symm
theorem uc8 {n : Nat} (h : n < 1000000) : IntKind.wrap .i64 ((n : Int) + 1) = ((n + 1 : Nat) : Int) := by
  rw [uc5 (by omega) (by omega)]; omega
theorem wrap_pred {n : Nat} (h : n < 1000000) : IntKind.wrap .i64 (((n + 1 : Nat) : Int) - 1) = (n : Int) := by
  rw [uc5 (by omega) (by omega)]; omega

/-! ### runs -/
abbrev RS := Option (List (List Int) × List Int)
/-- what one index does -/
def rstep (mem joi : Nat → Bool) (i : Nat) (s : RS) : RS :=
  if mem i = true then
    if (0 < i ∧ mem (i - 1) = true) ∧ joi i = true then (match s with | none => none | some (g, l) => some (g, l ++ [(i : Int)]))
    else (match s with | none => some ([], [(i : Int)]) | some (g, l) => some (g ++ [l], [(i : Int)]))
  else s
def rst (mem joi : Nat → Bool) : Nat → RS
  | 0 => none
  | i + 1 => rstep mem joi i (rst mem joi i)
def outOf : RS → List (List Int)
  | none => []
  | some (g, l) => g ++ [l]
def runs (mem joi : Nat → Bool) (n : Nat) : List (List Int) := outOf (rst mem joi n)
/-- from index n to N -/
def rto (mem joi : Nat → Bool) (s : RS) (n : Nat) : Nat → RS
  | 0 => s
  | m + 1 => rto mem joi (rstep mem joi n s) (n + 1) m
theorem rto_rst (mem joi : Nat → Bool) : ∀ (m n : Nat), rto mem joi (rst mem joi n) n m = rst mem joi (n + m)
  | 0, n => rfl
  | m + 1, n => by
    show rto mem joi (rst mem joi (n + 1)) (n + 1) m = _
    rw [rto_rst mem joi m (n + 1)]
    congr 1; omega

def inR (n : Nat) (p : List Int) : Prop := ∀ i ∈ p, 0 ≤ i ∧ i < (n : Int)
theorem inR_mono {n m : Nat} {p : List Int} (h : inR n p) (hm : n ≤ m) : inR m p := fun i hi => by have := h i hi; omega

/-- what is known of a state -/
structure Run (mem joi : Nat → Bool) (n : Nat) (s : RS) : Prop where
  none : s = none → ∀ m, m < n → mem m = false
  all : ∀ g l, s = some (g, l) → (∀ p ∈ g, p ≠ [] ∧ inR n p) ∧ l ≠ [] ∧ inR n l ∧ g.length ≤ n ∧ l.length ≤ n ∧ ∀ p ∈ g, p.length ≤ n

theorem run_step {mem joi : Nat → Bool} {n : Nat} {s : RS} (h : Run mem joi n s) : Run mem joi (n + 1) (rstep mem joi n s) := by
  unfold rstep
  by_cases hm : mem n = true
  · rw [if_pos hm]
    by_cases hj : (0 < n ∧ mem (n - 1) = true) ∧ joi n = true
    · rw [if_pos hj]
      cases s with
      | none =>
        have := h.none rfl (n - 1) (by omega)
        rw [this] at hj
        exact absurd hj.1.2 (by decide)
      | some q =>
        obtain ⟨g, l⟩ := q
        obtain ⟨h1, h2, h3, h4, h5, h6⟩ := h.all g l rfl
        refine ⟨fun e => by simp at e, fun g' l' e => ?_⟩
        simp only [Option.some.injEq, Prod.mk.injEq] at e
        obtain ⟨rfl, rfl⟩ := e
        refine ⟨fun p hp => ⟨(h1 p hp).1, inR_mono (h1 p hp).2 (by omega)⟩, by simp, fun i hi => ?_, by omega, by simp; omega, fun p hp => by have := h6 p hp; omega⟩
        rcases List.mem_append.1 hi with hi | hi
        · have := h3 i hi; omega
        · simp at hi; subst hi; omega
    · rw [if_neg hj]
      cases s with
      | none =>
        refine ⟨fun e => by simp at e, fun g' l' e => ?_⟩
        simp only [Option.some.injEq, Prod.mk.injEq] at e
        obtain ⟨rfl, rfl⟩ := e
        exact ⟨fun p hp => absurd hp (by simp), by simp, fun i hi => by simp at hi; subst hi; omega, by simp, by simp, fun p hp => absurd hp (by simp)⟩
      | some q =>
        obtain ⟨g, l⟩ := q
        obtain ⟨h1, h2, h3, h4, h5, h6⟩ := h.all g l rfl
        refine ⟨fun e => by simp at e, fun g' l' e => ?_⟩
        simp only [Option.some.injEq, Prod.mk.injEq] at e
        obtain ⟨rfl, rfl⟩ := e
        refine ⟨fun p hp => ?_, by simp, fun i hi => by simp at hi; subst hi; omega, by simp; omega, by simp, fun p hp => ?_⟩
        · rcases List.mem_append.1 hp with hp | hp
          · exact ⟨(h1 p hp).1, inR_mono (h1 p hp).2 (by omega)⟩
          · simp at hp; subst hp; exact ⟨h2, inR_mono h3 (by omega)⟩
        · rcases List.mem_append.1 hp with hp | hp
          · have := h6 p hp; omega
          · simp at hp; subst hp; omega
  · rw [if_neg hm]
    refine ⟨fun e m hmn => ?_, fun g l e => ?_⟩
    · by_cases he : m = n
      · subst he; simpa using hm
      · exact h.none e m (by omega)
    · obtain ⟨h1, h2, h3, h4, h5, h6⟩ := h.all g l e
      exact ⟨fun p hp => ⟨(h1 p hp).1, inR_mono (h1 p hp).2 (by omega)⟩, h2, inR_mono h3 (by omega), by omega, by omega, fun p hp => by have := h6 p hp; omega⟩

theorem run_rst (mem joi : Nat → Bool) : ∀ n, Run mem joi n (rst mem joi n)
  | 0 => ⟨fun _ m h => absurd h (by omega), fun g l e => by simp [rst] at e⟩
  | n + 1 => run_step (run_rst mem joi n)

theorem runs_ok (mem joi : Nat → Bool) (n : Nat) : (runs mem joi n).length ≤ n + 1 ∧ ∀ p ∈ runs mem joi n, p ≠ [] ∧ inR n p ∧ p.length ≤ n := by
  have h := run_rst mem joi n
  unfold runs
  cases hs : rst mem joi n with
  | none => exact ⟨by simp [outOf], fun p hp => absurd hp (by simp [outOf])⟩
  | some q =>
    obtain ⟨g, l⟩ := q
    obtain ⟨h1, h2, h3, h4, h5, h6⟩ := h.all g l hs
    refine ⟨by simp [outOf]; omega, fun p hp => ?_⟩
    rcases List.mem_append.1 hp with hp | hp
    · exact ⟨(h1 p hp).1, (h1 p hp).2, h6 p hp⟩
    · simp at hp; subst hp; exact ⟨h2, h3, h5⟩

/-! ### sums of oddities -/
def totF (L : List ua0) (s : Int) : List Int → Int
  | [] => s
  | i :: r => totF L (IntKind.wrap .i64 (s + (ati L i).Oddity)) r
def totS (L : List ua0) (p : List Int) : Int := Int.tmod (totF L 0 p) 8
def badS (L : List ua0) (p : List Int) : Bool := decide (p.length = 2 ∧ (ati L (p.getD 0 0)).Dim = 1 ∧ (ati L (p.getD 1 0)).Dim = 1 ∧ Int.tmod (totS L p) 4 = 0)

end Go.Cn
