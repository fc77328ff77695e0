/- Runs of joined members: how loops make them, and that they are intervals, in order. -/
import Derived.Test.YtgbijhccgmmkgabGreatDoorTa1
set_option linter.unusedVariables false
noncomputable section
namespace Go.Cn

abbrev jnd (mem joi : Nat → Bool) (n : Nat) : Prop := (0 < n ∧ mem (n - 1) = true) ∧ joi n = true

/-- a loop in three shapes (nothing yet; a new run; a run that has grown) makes the runs -/
theorem runs_gen {O : Type} (N : Nat) (mem joi : Nat → Bool) (val : O → List (List Int)) (A0 : Nat → Nat → Option O) (A1 : Nat → Nat → List (List Int) → Int → Option O) (A2 : Nat → Nat → List (List Int) → List Int → Option O)
    (e0 : ∀ j, ∃ o, A0 (j + 1) N = some o ∧ val o = []) (e1 : ∀ j g x, ∃ o, A1 (j + 1) N g x = some o ∧ val o = g ++ [[x]]) (e2 : ∀ j g l, ∃ o, A2 (j + 1) N g l = some o ∧ val o = g ++ [l])
    (s0 : ∀ j n, n < N → (mem n = false → A0 (j + 1) n = A0 j (n + 1)) ∧ (mem n = true → ¬ jnd mem joi n → A0 (j + 1) n = A1 j (n + 1) [] n))
    (s1 : ∀ j n g x, n < N → g.length ≤ n → (mem n = false → A1 (j + 1) n g x = A1 j (n + 1) g x) ∧ (mem n = true → jnd mem joi n → A1 (j + 1) n g x = A2 j (n + 1) g [x, (n : Int)]) ∧ (mem n = true → ¬ jnd mem joi n → A1 (j + 1) n g x = A1 j (n + 1) (g ++ [[x]]) n))
    (s2 : ∀ j n g l, n < N → g.length ≤ n → l.length ≤ n → (mem n = false → A2 (j + 1) n g l = A2 j (n + 1) g l) ∧ (mem n = true → jnd mem joi n → A2 (j + 1) n g l = A2 j (n + 1) g (l ++ [(n : Int)])) ∧ (mem n = true → ¬ jnd mem joi n → A2 (j + 1) n g l = A1 j (n + 1) (g ++ [l]) n)) :
    ∀ k, N < k → ∃ o, A0 k 0 = some o ∧ val o = runs mem joi N := by
  have main : ∀ (m j n : Nat), n + m = N → m < j →
      ((∀ i, i < n → mem i = false) → ∃ o, A0 j n = some o ∧ val o = outOf (rto mem joi none n m)) ∧
      (∀ g x, g.length ≤ n → ∃ o, A1 j n g x = some o ∧ val o = outOf (rto mem joi (some (g, [x])) n m)) ∧
      (∀ g l, g.length ≤ n → l.length ≤ n → ∃ o, A2 j n g l = some o ∧ val o = outOf (rto mem joi (some (g, l)) n m)) := by
    intro m
    induction m with
    | zero =>
      intro j n hn hj
      obtain ⟨j, rfl⟩ : ∃ i, j = i + 1 := ⟨j - 1, by omega⟩
      obtain rfl : n = N := by omega
      exact ⟨fun _ => e0 j, fun g x _ => e1 j g x, fun g l _ _ => e2 j g l⟩
    | succ m ih =>
      intro j n hn hj
      obtain ⟨j, rfl⟩ : ∃ i, j = i + 1 := ⟨j - 1, by omega⟩
      obtain ⟨i1, i2, i3⟩ := ih j (n + 1) (by omega) (by omega)
      refine ⟨fun h0 => ?_, fun g x hg => ?_, fun g l hg hl => ?_⟩
      · show ∃ o, _ ∧ val o = outOf (rto mem joi (rstep mem joi n none) (n + 1) m)
        obtain ⟨a1, a2⟩ := s0 j n (by omega)
        cases hm : mem n with
        | false =>
          rw [a1 hm]
          have e : rstep mem joi n none = none := by unfold rstep; rw [if_neg (by rw [hm]; decide)]
          rw [e]
          refine i1 fun i hi => ?_
          by_cases hin : i = n
          · subst hin; exact hm
          · exact h0 i (by omega)
        | true =>
          have hnj : ¬ jnd mem joi n := fun h => by
            have h1 := h0 (n - 1) (by have := h.1.1; omega)
            have h2 := h.1.2
            rw [h1] at h2; exact absurd h2 (by decide)
          rw [a2 hm hnj]
          have e : rstep mem joi n none = some ([], [(n : Int)]) := by unfold rstep; rw [if_pos hm, if_neg hnj]
          rw [e]
          exact i2 [] n (by simp)
      · show ∃ o, _ ∧ val o = outOf (rto mem joi (rstep mem joi n (some (g, [x]))) (n + 1) m)
        obtain ⟨a1, a2, a3⟩ := s1 j n g x (by omega) hg
        cases hm : mem n with
        | false =>
          rw [a1 hm]
          have e : rstep mem joi n (some (g, [x])) = some (g, [x]) := by unfold rstep; rw [if_neg (by rw [hm]; decide)]
          rw [e]; exact i2 g x (by omega)
        | true =>
          by_cases hj : jnd mem joi n
          · rw [a2 hm hj]
            have e : rstep mem joi n (some (g, [x])) = some (g, [x, (n : Int)]) := by unfold rstep; rw [if_pos hm, if_pos hj]; rfl
            rw [e]; exact i3 g _ (by omega) (by have := hj.1.1; simp; omega)
          · rw [a3 hm hj]
            have e : rstep mem joi n (some (g, [x])) = some (g ++ [[x]], [(n : Int)]) := by unfold rstep; rw [if_pos hm, if_neg hj]
            rw [e]; exact i2 _ n (by simp; omega)
      · show ∃ o, _ ∧ val o = outOf (rto mem joi (rstep mem joi n (some (g, l))) (n + 1) m)
        obtain ⟨a1, a2, a3⟩ := s2 j n g l (by omega) hg hl
        cases hm : mem n with
        | false =>
          rw [a1 hm]
          have e : rstep mem joi n (some (g, l)) = some (g, l) := by unfold rstep; rw [if_neg (by rw [hm]; decide)]
          rw [e]; exact i3 g l (by omega) (by omega)
        | true =>
          by_cases hj : jnd mem joi n
          · rw [a2 hm hj]
            have e : rstep mem joi n (some (g, l)) = some (g, l ++ [(n : Int)]) := by unfold rstep; rw [if_pos hm, if_pos hj]
            rw [e]; exact i3 g _ (by omega) (by simp; omega)
          · rw [a3 hm hj]
            have e : rstep mem joi n (some (g, l)) = some (g ++ [l], [(n : Int)]) := by unfold rstep; rw [if_pos hm, if_neg hj]
            rw [e]; exact i2 _ n (by simp; omega)
  intro k hk
  obtain ⟨h, _, _⟩ := main N k 0 (by omega) hk
  obtain ⟨o, ho, hv⟩ := h (fun i hi => absurd hi (by omega))
  refine ⟨o, ho, ?_⟩
  have := rto_rst mem joi N 0
  rw [Nat.zero_add] at this
  have e : rto mem joi none 0 N = rst mem joi N := this
  rw [hv, e]
  rfl

/-- runs tell joi at places inside alone -/
theorem runs_congr {mem joi joi' : Nat → Bool} {N : Nat} (h : ∀ n, n < N → 0 < n → mem n = true → mem (n - 1) = true → joi n = joi' n) : runs mem joi N = runs mem joi' N := by
  have : ∀ n, n ≤ N → rst mem joi n = rst mem joi' n := by
    intro n
    induction n with
    | zero => intro _; rfl
    | succ n ih =>
      intro hn
      show rstep mem joi n (rst mem joi n) = rstep mem joi' n (rst mem joi' n)
      rw [ih (by omega)]
      unfold rstep
      by_cases hm : mem n = true
      · rw [if_pos hm, if_pos hm]
        by_cases hp : 0 < n ∧ mem (n - 1) = true
        · rw [h n (by omega) hp.1 hm hp.2]
        · rw [if_neg (fun q => hp q.1), if_neg (fun q => hp q.1)]
      · rw [if_neg hm, if_neg hm]
  unfold runs
  rw [this N (Nat.le_refl N)]

/-! ### intervals -/
def iv (a m : Nat) : List Int := (List.range' a m).map Int.ofNat
theorem iv_succ (a m : Nat) : iv a (m + 1) = iv a m ++ [((a + m : Nat) : Int)] := by
  unfold iv
  rw [List.range'_1_concat, List.map_append]
  rfl
theorem mem_iv {a m : Nat} {i : Int} : i ∈ iv a m ↔ (a : Int) ≤ i ∧ i < ((a + m : Nat) : Int) := by
  unfold iv
  rw [List.mem_map]
  constructor
  · rintro ⟨x, hx, rfl⟩
    rw [List.mem_range'_1] at hx
    have : Int.ofNat x = (x : Int) := rfl
    omega
  · intro h
    refine ⟨i.toNat, ?_, ?_⟩
    · rw [List.mem_range'_1]; omega
    · show ((i.toNat : Nat) : Int) = i; omega
theorem iv_get {a m j : Nat} (h : j < m) : (iv a m)[j]? = some ((a + j : Nat) : Int) := by
  unfold iv
  rw [List.getElem?_map, List.getElem?_range' h]
  simp
theorem iv_contains {a m : Nat} {i : Int} : (iv a m).contains i = decide ((a : Int) ≤ i ∧ i < ((a + m : Nat) : Int)) := by
  have h : (iv a m).contains i = true ↔ ((a : Int) ≤ i ∧ i < ((a + m : Nat) : Int)) := by rw [List.contains_iff_mem, mem_iv]
  by_cases hc : (a : Int) ≤ i ∧ i < ((a + m : Nat) : Int)
  · rw [decide_eq_true hc]; exact h.2 hc
  · rw [decide_eq_false hc]
    have : ¬ (iv a m).contains i = true := fun e => hc (h.1 e)
    simpa using this
theorem iv_head {a m : Nat} : (iv a (m + 1)).getD 0 0 = (a : Int) := by
  rw [List.getD_eq_getElem?_getD, iv_get (by omega)]; rfl

/-- runs between lo and hi, in order -/
def Chn : Nat → List (List Int) → Nat → Prop
  | lo, [], hi => lo ≤ hi
  | lo, p :: r, hi => ∃ a m, lo ≤ a ∧ p = iv a (m + 1) ∧ Chn (a + m + 1) r hi
theorem chn_snoc {a m hi' : Nat} : ∀ {P : List (List Int)} {lo hi : Nat}, Chn lo P hi → hi ≤ a → a + m + 1 ≤ hi' → Chn lo (P ++ [iv a (m + 1)]) hi'
  | [], lo, hi, h, h1, h2 => ⟨a, m, by have : lo ≤ hi := h; omega, rfl, h2⟩
  | p :: r, lo, hi, ⟨b, q, g1, g2, g3⟩, h1, h2 => ⟨b, q, g1, g2, chn_snoc g3 h1 h2⟩
theorem chn_le : ∀ {P : List (List Int)} {lo hi : Nat}, Chn lo P hi → lo ≤ hi
  | [], lo, hi, h => h
  | p :: r, lo, hi, ⟨b, q, g1, g2, g3⟩ => by have := chn_le g3; omega
theorem chn_mem : ∀ {P : List (List Int)} {lo hi : Nat}, Chn lo P hi → ∀ p ∈ P, ∃ a m, p = iv a (m + 1) ∧ lo ≤ a ∧ a + m + 1 ≤ hi
  | [], lo, hi, h, p, hp => by simp at hp
  | q :: r, lo, hi, ⟨b, m, g1, g2, g3⟩, p, hp => by
    rcases List.mem_cons.1 hp with rfl | hp
    · exact ⟨b, m, g2, g1, chn_le g3⟩
    · obtain ⟨a, m', k1, k2, k3⟩ := chn_mem g3 p hp
      exact ⟨a, m', k1, by omega, k3⟩
theorem chn_find : ∀ {P : List (List Int)} {lo hi : Nat}, Chn lo P hi → ∀ p ∈ P, ∀ i ∈ p, P.find? (fun p => p.contains i) = some p
  | [], lo, hi, h, p, hp, i, hi' => by simp at hp
  | q :: r, lo, hi, ⟨b, m, g1, g2, g3⟩, p, hp, i, hi' => by
    rw [List.find?_cons]
    rcases List.mem_cons.1 hp with rfl | hp
    · have : p.contains i = true := by rw [List.contains_iff_mem]; exact hi'
      rw [this]
    · obtain ⟨a, m', k1, k2, k3⟩ := chn_mem g3 p hp
      have h2 : i ∈ iv a (m' + 1) := by rw [← k1]; exact hi'
      rw [mem_iv] at h2
      have : q.contains i = false := by
        rw [g2, iv_contains, decide_eq_false (by omega)]
      rw [this]
      exact chn_find g3 p hp i hi'

structure Run2 (mem joi : Nat → Bool) (n : Nat) (s : RS) : Prop where
  chn : match s with | none => True | some (g, l) => ∃ a m, l = iv a (m + 1) ∧ Chn 0 g a ∧ a + m + 1 ≤ n ∧ (0 < n → mem (n - 1) = true → a + m + 1 = n)
  none : s = none → ∀ m, m < n → mem m = false
  mems : ∀ p ∈ outOf s, ∀ i ∈ p, mem i.toNat = true
  cover : ∀ m, m < n → mem m = true → ∃ p ∈ outOf s, ((m : Nat) : Int) ∈ p

theorem run2_step {mem joi : Nat → Bool} {n : Nat} {s : RS} (h : Run2 mem joi n s) : Run2 mem joi (n + 1) (rstep mem joi n s) := by
  have lt : ∀ m, m < n + 1 → m < n ∨ m = n := fun m hm => by omega
  unfold rstep
  by_cases hm : mem n = true
  · rw [if_pos hm]
    by_cases hj : (0 < n ∧ mem (n - 1) = true) ∧ joi n = true
    · rw [if_pos hj]
      cases s with
      | none =>
        have := h.none rfl (n - 1) (by omega)
        rw [this] at hj
        exact absurd hj.1.2 (by decide)
      | some q =>
        obtain ⟨g, l⟩ := q
        obtain ⟨a, m, h1, h2, h3, h4⟩ := h.chn
        have e := h4 hj.1.1 hj.1.2
        refine ⟨⟨a, m + 1, ?_, h2, by omega, fun _ _ => by omega⟩, fun e => by simp at e, fun p hp i hi => ?_, fun x hx hmx => ?_⟩
        · rw [h1, iv_succ a (m + 1)]; congr 2; omega
        · rcases List.mem_append.1 hp with hp | hp
          · exact h.mems p (List.mem_append_left _ hp) i hi
          · simp at hp; subst hp
            rcases List.mem_append.1 hi with hi | hi
            · exact h.mems l (by simp [outOf]) i hi
            · simp at hi; subst hi; simpa using hm
        · rcases lt x hx with hx | rfl
          · obtain ⟨p, hp, hi⟩ := h.cover x hx hmx
            rcases List.mem_append.1 hp with hp | hp
            · exact ⟨p, List.mem_append_left _ hp, hi⟩
            · simp at hp; subst hp; exact ⟨p ++ [(n : Int)], by simp [outOf], List.mem_append_left _ hi⟩
          · exact ⟨l ++ [(x : Int)], by simp [outOf], by simp⟩
    · rw [if_neg hj]
      have one : [(n : Int)] = iv n 1 := rfl
      cases s with
      | none =>
        refine ⟨⟨n, 0, one, Nat.zero_le _, by omega, fun _ _ => by omega⟩, fun e => by simp at e, fun p hp i hi => ?_, fun x hx hmx => ?_⟩
        · simp [outOf] at hp; subst hp; simp at hi; subst hi; simpa using hm
        · rcases lt x hx with hx | rfl
          · rw [h.none rfl x hx] at hmx; exact absurd hmx (by decide)
          · exact ⟨[(x : Int)], by simp [outOf], by simp⟩
      | some q =>
        obtain ⟨g, l⟩ := q
        obtain ⟨a, m, h1, h2, h3, h4⟩ := h.chn
        refine ⟨⟨n, 0, one, by rw [h1]; exact chn_snoc h2 (Nat.le_refl _) h3, by omega, fun _ _ => by omega⟩, fun e => by simp at e, fun p hp i hi => ?_, fun x hx hmx => ?_⟩
        · have hp' : p ∈ (g ++ [l]) ++ [[(n : Int)]] := hp
          rcases List.mem_append.1 hp' with hp | hp
          · exact h.mems p hp i hi
          · simp at hp; subst hp; simp at hi; subst hi; simpa using hm
        · rcases lt x hx with hx | rfl
          · obtain ⟨p, hp, hi⟩ := h.cover x hx hmx
            exact ⟨p, List.mem_append_left _ hp, hi⟩
          · exact ⟨[(x : Int)], by simp [outOf], by simp⟩
  · rw [if_neg hm]
    refine ⟨?_, fun e x hx => ?_, h.mems, fun x hx hmx => ?_⟩
    · cases s with
      | none => trivial
      | some q =>
        obtain ⟨g, l⟩ := q
        obtain ⟨a, m, h1, h2, h3, h4⟩ := h.chn
        exact ⟨a, m, h1, h2, by omega, fun _ hh => absurd hh hm⟩
    · rcases lt x hx with hx | rfl
      · exact h.none e x hx
      · simpa using hm
    · rcases lt x hx with hx | rfl
      · exact h.cover x hx hmx
      · exact absurd hmx hm

theorem run2_rst (mem joi : Nat → Bool) : ∀ n, Run2 mem joi n (rst mem joi n)
  | 0 => ⟨trivial, fun _ m h => absurd h (by omega), fun p hp => absurd hp (by simp [rst, outOf]), fun m h => absurd h (by omega)⟩
  | n + 1 => run2_step (run2_rst mem joi n)

theorem runs_chn (mem joi : Nat → Bool) (n : Nat) : Chn 0 (runs mem joi n) n := by
  have h := (run2_rst mem joi n).chn
  unfold runs
  cases hs : rst mem joi n with
  | none => exact Nat.zero_le _
  | some q =>
    obtain ⟨g, l⟩ := q
    rw [hs] at h
    obtain ⟨a, m, h1, h2, h3, h4⟩ := h
    show Chn 0 (g ++ [l]) n
    rw [h1]
    exact chn_snoc h2 (Nat.le_refl _) h3
theorem runs_mems {mem joi : Nat → Bool} {n : Nat} : ∀ p ∈ runs mem joi n, ∀ i ∈ p, mem i.toNat = true := (run2_rst mem joi n).mems
theorem runs_cover {mem joi : Nat → Bool} {n : Nat} : ∀ m, m < n → mem m = true → ∃ p ∈ runs mem joi n, ((m : Nat) : Int) ∈ p := (run2_rst mem joi n).cover

end Go.Cn
