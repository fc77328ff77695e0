/- Runs: what joins inside, what does not before, and how many members they hold. -/
import Derived.Test.YtgbijhccgmmkgabGreatDoorTc1
set_option linter.unusedVariables false
noncomputable section
namespace Go.Cn

/-- a run is an interval, joined inside, and not joined to what lies before it -/
def GoodR (mem joi : Nat → Bool) (p : List Int) : Prop := ∃ a m, p = iv a (m + 1) ∧ (∀ j, a < j → j ≤ a + m → joi j = true) ∧ ¬ jnd mem joi a

def cnt (mem : Nat → Bool) : Nat → Nat
  | 0 => 0
  | n + 1 => cnt mem n + (if mem n = true then 1 else 0)
def lens : List (List Int) → Nat
  | [] => 0
  | p :: r => p.length + lens r
theorem lens_snoc (g : List (List Int)) (p : List Int) : lens (g ++ [p]) = lens g + p.length := by
  induction g with
  | nil => simp [lens]
  | cons q g ih => simp only [List.cons_append, lens, ih]; omega

theorem iv_inj {a m b q : Nat} (h : iv a (m + 1) = iv b (q + 1)) : a = b ∧ m = q := by
  have h1 := congrArg (fun l => l.getD 0 0) h
  have h2 := congrArg List.length h
  simp only [iv_head] at h1
  rw [iv_len, iv_len] at h2
  omega

structure Run3 (mem joi : Nat → Bool) (n : Nat) (s : RS) : Prop where
  good : ∀ p ∈ outOf s, GoodR mem joi p
  lens : lens (outOf s) = cnt mem n

theorem run3_rst (mem joi : Nat → Bool) : ∀ n, Run3 mem joi n (rst mem joi n)
  | 0 => ⟨fun p hp => absurd hp (by simp [rst, outOf]), rfl⟩
  | n + 1 => by
    obtain ⟨h1, h2⟩ := run3_rst mem joi n
    have hr := run2_rst mem joi n
    show Run3 mem joi (n + 1) (rstep mem joi n (rst mem joi n))
    generalize rst mem joi n = s at h1 h2 hr ⊢
    have hc : cnt mem (n + 1) = cnt mem n + (if mem n = true then 1 else 0) := rfl
    unfold rstep
    by_cases hm : mem n = true
    · rw [if_pos hm] at hc ⊢
      by_cases hj : (0 < n ∧ mem (n - 1) = true) ∧ joi n = true
      · rw [if_pos hj]
        cases s with
        | none =>
          have := hr.none rfl (n - 1) (by omega)
          rw [this] at hj
          exact absurd hj.1.2 (by decide)
        | some q =>
          obtain ⟨g, l⟩ := q
          obtain ⟨a, m, g1, g2, g3, g4⟩ := hr.chn
          have e := g4 hj.1.1 hj.1.2
          refine ⟨fun p hp => ?_, ?_⟩
          · rcases List.mem_append.1 hp with hp | hp
            · exact h1 p (List.mem_append_left _ hp)
            · simp at hp; subst hp
              obtain ⟨b, w, k1, k2, k3⟩ := h1 l (by simp [outOf])
              rw [g1] at k1
              obtain ⟨rfl, rfl⟩ := iv_inj k1
              refine ⟨a, m + 1, ?_, fun j x y => ?_, k3⟩
              · rw [g1, iv_succ a (m + 1)]; congr 2; omega
              · by_cases hjn : j = n
                · subst hjn; exact hj.2
                · exact k2 j x (by omega)
          · rw [hc, ← h2]
            show lens (g ++ [l ++ [(n : Int)]]) = lens (g ++ [l]) + 1
            rw [lens_snoc, lens_snoc]; simp; omega
      · rw [if_neg hj]
        have one : GoodR mem joi [(n : Int)] := ⟨n, 0, rfl, fun j x y => by omega, hj⟩
        cases s with
        | none =>
          refine ⟨fun p hp => ?_, ?_⟩
          · simp [outOf] at hp; subst hp; exact one
          · rw [hc, ← h2]; rfl
        | some q =>
          obtain ⟨g, l⟩ := q
          refine ⟨fun p hp => ?_, ?_⟩
          · have hp' : p ∈ (g ++ [l]) ++ [[(n : Int)]] := hp
            rcases List.mem_append.1 hp' with hp | hp
            · exact h1 p hp
            · simp at hp; subst hp; exact one
          · rw [hc, ← h2]
            show lens ((g ++ [l]) ++ [[(n : Int)]]) = lens (g ++ [l]) + 1
            rw [lens_snoc (g ++ [l])]; rfl
    · rw [if_neg hm] at hc ⊢
      exact ⟨h1, by rw [hc, ← h2]; rfl⟩

theorem runs_good {mem joi : Nat → Bool} {n : Nat} : ∀ p ∈ runs mem joi n, GoodR mem joi p := (run3_rst mem joi n).good
/-- intervals that follow each other -/
def Cov : Nat → List (List Int) → Nat → Prop
  | lo, [], hi => lo = hi
  | lo, p :: r, hi => ∃ m, p = iv lo (m + 1) ∧ Cov (lo + m + 1) r hi
end Go.Cn
