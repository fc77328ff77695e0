/- The document's compartments and links. -/
import Derived.Test.YtgbijhccgmmkgabGreatDoorTf13m6
import Derived.Test.YtgbijhccgmmkgabGreatDoorTa1
set_option linter.unusedVariables false
noncomputable section
namespace Go.Cn

def memS (L : List ua0) (i : Nat) : Bool := (ati L (i : Int)).Odd
def joiS (L : List ua0) (i : Nat) : Bool := decide ((ati L ((i - 1 : Nat) : Int)).Exp = IntKind.wrap .i64 ((ati L (i : Int)).Exp - 1))
def partsS (L : List ua0) : List (List Int) := runs (memS L) (joiS L) L.length

def pval : F29.O0 → List (List Int)
  | .x0 => []
  | .x1 g x => g ++ [[x]]
  | .x2 g l => g ++ [l]

open F29 in
theorem parts_loop (k : Nat) (L : List ua0) (hL : L.length ≤ 1000) : ∀ (m j n : Nat), n + m = L.length → m < j →
    ((∀ i, i < n → memS L i = false) → ∃ o, l0 k j L L (L.length : Int) (n : Int) = some o ∧ pval o = outOf (rto (memS L) (joiS L) none n m)) ∧
    (∀ (g : List (List Int)) (x : Int), g.length ≤ n → ∃ o, l0b k j g x L L (L.length : Int) (n : Int) = some o ∧ pval o = outOf (rto (memS L) (joiS L) (some (g, [x])) n m)) ∧
    (∀ (g : List (List Int)) (l : List Int), g.length ≤ n → l.length ≤ n → ∃ o, l0c k j g l L L (L.length : Int) (n : Int) = some o ∧ pval o = outOf (rto (memS L) (joiS L) (some (g, l)) n m)) := by
  intro m
  induction m with
  | zero =>
    intro j n hn hj
    obtain ⟨j, rfl⟩ : ∃ i, j = i + 1 := ⟨j - 1, by omega⟩
    refine ⟨fun _ => ⟨.x0, ?_, rfl⟩, fun g x _ => ⟨.x1 g x, ?_, rfl⟩, fun g l _ _ => ⟨.x2 g l, ?_, rfl⟩⟩
    · show l0_b k (l0 k j) (l0b k j) (l0c k j) _ _ _ _ = _
      unfold l0_b; rw [if_neg (by omega)]
    · show l0b_b k (l0 k j) (l0b k j) (l0c k j) _ _ _ _ _ _ = _
      unfold l0b_b; rw [if_neg (by omega)]
    · show l0c_b k (l0 k j) (l0b k j) (l0c k j) _ _ _ _ _ _ = _
      unfold l0c_b; rw [if_neg (by omega)]
  | succ m ih =>
    intro j n hn hj
    obtain ⟨j, rfl⟩ : ∃ i, j = i + 1 := ⟨j - 1, by omega⟩
    obtain ⟨i1, i2, i3⟩ := ih j (n + 1) (by omega) (by omega)
    have hat : elt L (n : Int) = some (ati L (n : Int)) := ud5 (by omega) (by omega)
    have hw : IntKind.wrap .i64 ((n : Int) + 1) = ((n + 1 : Nat) : Int) := uc4 (by omega)
    have hlt : (n : Int) < (L.length : Int) := by omega
    have hpre : ∀ (h : 0 < n), IntKind.wrap .i64 ((n : Int) - 1) = ((n - 1 : Nat) : Int) ∧ elt L ((n - 1 : Nat) : Int) = some (ati L ((n - 1 : Nat) : Int)) := fun h => by
      refine ⟨?_, ud5 (by omega) (by omega)⟩
      rw [ud0 (by omega) (by omega)]; omega
    refine ⟨fun h0 => ?_, fun g x hg => ?_, fun g l hg hl => ?_⟩
    · show ∃ o, l0_b k (l0 k j) (l0b k j) (l0c k j) _ _ _ _ = _ ∧ pval o = outOf (rto _ _ (rstep (memS L) (joiS L) n none) (n + 1) m)
      unfold l0_b
      rw [if_pos hlt, hat, Option.bind_some, hw]
      by_cases hm : (ati L (n : Int)).Odd = true
      · rw [if_pos hm]
        have hnj : ¬ ((0 < n ∧ memS L (n - 1) = true) ∧ joiS L n = true) := fun h => by have := h0 (n - 1) (by omega); rw [this] at h; exact absurd h.1.2 (by decide)
        have e : rstep (memS L) (joiS L) n none = some ([], [(n : Int)]) := by
          unfold rstep
          have : memS L n = true := hm
          rw [if_pos this, if_neg hnj]
        rw [e]
        by_cases hn0 : (n : Int) > 0
        · obtain ⟨p1, p2⟩ := hpre (by omega)
          rw [if_pos hn0, p1, p2, Option.bind_some]
          have hodd : ¬ (ati L ((n - 1 : Nat) : Int)).Odd = true := fun h => by have := h0 (n - 1) (by omega); unfold memS at this; rw [this] at h; exact absurd h (by decide)
          rw [if_neg hodd]
          exact i2 [] n (by simp)
        · rw [if_neg hn0]
          exact i2 [] n (by simp)
      · rw [if_neg hm]
        have e : rstep (memS L) (joiS L) n none = none := by
          unfold rstep
          have : ¬ memS L n = true := hm
          rw [if_neg this]
        rw [e]
        refine i1 fun i hi => ?_
        by_cases hin : i = n
        · subst hin; unfold memS; simpa using hm
        · exact h0 i (by omega)
    · show ∃ o, l0b_b k (l0 k j) (l0b k j) (l0c k j) _ _ _ _ _ _ = _ ∧ pval o = outOf (rto _ _ (rstep (memS L) (joiS L) n (some (g, [x]))) (n + 1) m)
      unfold l0b_b
      rw [if_pos hlt, hat, Option.bind_some, hw]
      have hg' : g.length < 1073741824 := by omega
      by_cases hm : (ati L (n : Int)).Odd = true
      · have hmm : memS L n = true := hm
        rw [if_pos hm]
        by_cases hn0 : (n : Int) > 0
        · obtain ⟨p1, p2⟩ := hpre (by omega)
          rw [if_pos hn0, p1, p2, Option.bind_some]
          by_cases hodd : (ati L ((n - 1 : Nat) : Int)).Odd = true
          · rw [if_pos hodd]
            by_cases hexp : (ati L ((n - 1 : Nat) : Int)).Exp = IntKind.wrap .i64 ((ati L (n : Int)).Exp - 1)
            · rw [if_pos hexp, if_pos hg']
              have e : rstep (memS L) (joiS L) n (some (g, [x])) = some (g, [x, (n : Int)]) := by
                unfold rstep; rw [if_pos hmm, if_pos ⟨⟨by omega, hodd⟩, decide_eq_true hexp⟩]; rfl
              rw [e]
              exact i3 g [x, (n : Int)] (by omega) (by simp; omega)
            · rw [if_neg hexp, if_pos hg']
              have e : rstep (memS L) (joiS L) n (some (g, [x])) = some (g ++ [[x]], [(n : Int)]) := by
                unfold rstep; rw [if_pos hmm, if_neg (fun h => hexp (of_decide_eq_true h.2))]
              rw [e]
              exact i2 (g ++ [[x]]) n (by simp; omega)
          · rw [if_neg hodd, if_pos hg']
            have e : rstep (memS L) (joiS L) n (some (g, [x])) = some (g ++ [[x]], [(n : Int)]) := by
              unfold rstep; rw [if_pos hmm, if_neg (fun h => hodd h.1.2)]
            rw [e]
            exact i2 (g ++ [[x]]) n (by simp; omega)
        · rw [if_neg hn0, if_pos hg']
          have e : rstep (memS L) (joiS L) n (some (g, [x])) = some (g ++ [[x]], [(n : Int)]) := by
            unfold rstep; rw [if_pos hmm, if_neg (fun h => by have := h.1.1; omega)]
          rw [e]
          exact i2 (g ++ [[x]]) n (by simp; omega)
      · rw [if_neg hm]
        have e : rstep (memS L) (joiS L) n (some (g, [x])) = some (g, [x]) := by
          unfold rstep
          have : ¬ memS L n = true := hm
          rw [if_neg this]
        rw [e]
        exact i2 g x (by omega)
    · show ∃ o, l0c_b k (l0 k j) (l0b k j) (l0c k j) _ _ _ _ _ _ = _ ∧ pval o = outOf (rto _ _ (rstep (memS L) (joiS L) n (some (g, l))) (n + 1) m)
      unfold l0c_b
      rw [if_pos hlt, hat, Option.bind_some, hw]
      have hg' : g.length < 1073741824 := by omega
      have hl' : l.length < 1073741824 := by omega
      by_cases hm : (ati L (n : Int)).Odd = true
      · have hmm : memS L n = true := hm
        rw [if_pos hm]
        by_cases hn0 : (n : Int) > 0
        · obtain ⟨p1, p2⟩ := hpre (by omega)
          rw [if_pos hn0, p1, p2, Option.bind_some]
          by_cases hodd : (ati L ((n - 1 : Nat) : Int)).Odd = true
          · rw [if_pos hodd]
            by_cases hexp : (ati L ((n - 1 : Nat) : Int)).Exp = IntKind.wrap .i64 ((ati L (n : Int)).Exp - 1)
            · rw [if_pos hexp, if_pos hg', if_pos hl']
              have e : rstep (memS L) (joiS L) n (some (g, l)) = some (g, l ++ [(n : Int)]) := by
                unfold rstep; rw [if_pos hmm, if_pos ⟨⟨by omega, hodd⟩, decide_eq_true hexp⟩]
              rw [e]
              exact i3 g (l ++ [(n : Int)]) (by omega) (by simp; omega)
            · rw [if_neg hexp, if_pos hg']
              have e : rstep (memS L) (joiS L) n (some (g, l)) = some (g ++ [l], [(n : Int)]) := by
                unfold rstep; rw [if_pos hmm, if_neg (fun h => hexp (of_decide_eq_true h.2))]
              rw [e]
              exact i2 (g ++ [l]) n (by simp; omega)
          · rw [if_neg hodd, if_pos hg']
            have e : rstep (memS L) (joiS L) n (some (g, l)) = some (g ++ [l], [(n : Int)]) := by
              unfold rstep; rw [if_pos hmm, if_neg (fun h => hodd h.1.2)]
            rw [e]
            exact i2 (g ++ [l]) n (by simp; omega)
        · rw [if_neg hn0, if_pos hg']
          have e : rstep (memS L) (joiS L) n (some (g, l)) = some (g ++ [l], [(n : Int)]) := by
            unfold rstep; rw [if_pos hmm, if_neg (fun h => by have := h.1.1; omega)]
          rw [e]
          exact i2 (g ++ [l]) n (by simp; omega)
      · rw [if_neg hm]
        have e : rstep (memS L) (joiS L) n (some (g, l)) = some (g, l) := by
          unfold rstep
          have : ¬ memS L n = true := hm
          rw [if_neg this]
        rw [e]
        exact i3 g l (by omega) (by omega)

theorem parts_val (k : Nat) (L : List ua0) (hL : L.length ≤ 1000) (hk : L.length < k) : F29 k L = some (partsS L) := by
  unfold F29 F29.b
  obtain ⟨h, _, _⟩ := parts_loop k L hL L.length k 0 (by omega) hk
  obtain ⟨o, ho, hv⟩ := h (fun i hi => absurd hi (by omega))
  have e0 : ((0 : Nat) : Int) = 0 := rfl
  rw [e0] at ho
  rw [ho]
  have e : rto (memS L) (joiS L) none 0 L.length = rst (memS L) (joiS L) L.length := by
    have := rto_rst (memS L) (joiS L) L.length 0
    rw [Nat.zero_add] at this
    exact this
  rw [e] at hv
  unfold partsS runs
  rw [← hv]
  cases o <;> rfl

open F33 in
theorem total_loop (k : Nat) (L : List ua0) (p : List Int) (hp : p.length ≤ 1000) (hin : inR L.length p) : ∀ (r : List Int) (j n : Nat) (s : Int), r.length < j → p.drop n = r → n ≤ p.length →
    l0 k j L s p (p.length : Int) (n : Int) = some (totF L s r) := by
  intro r
  induction r with
  | nil =>
    intro j n s hj hr hn
    obtain ⟨j, rfl⟩ : ∃ i, j = i + 1 := ⟨j - 1, by simp at hj; omega⟩
    have := uf4 hr hn
    show l0_b k (l0 k j) _ _ _ _ _ = _
    unfold l0_b; rw [if_neg (by omega)]; rfl
  | cons b r ih =>
    intro j n s hj hr hn
    obtain ⟨j, rfl⟩ : ∃ i, j = i + 1 := ⟨j - 1, by simp at hj; omega⟩
    obtain ⟨g1, g2, g3, g4⟩ := ue3 hr
    simp only [List.length_cons] at hj
    have hb := hin b (List.mem_of_getElem? g4)
    show l0_b k (l0 k j) _ _ _ _ _ = _
    unfold l0_b
    rw [if_pos (by omega), g2, Option.bind_some, ud5 hb.1 hb.2, Option.bind_some, uc4 (by omega), ih j (n + 1) _ (by omega) g3 (by omega)]
    rfl

theorem total_val (k : Nat) (L : List ua0) (p : List Int) (hp : p.length ≤ 1000) (hin : inR L.length p) (hk : p.length < k) : F33 k L p = some (totS L p) := by
  unfold F33 F33.b
  have := total_loop k L p hp hin p k 0 0 hk rfl (by omega)
  have e0 : ((0 : Nat) : Int) = 0 := rfl
  rw [e0] at this
  rw [this]
  rfl

/-- the first part that holds i -/
def ptS (P : List (List Int)) (i : Int) : List Int := (P.find? (fun p => p.contains i)).getD []

open F43 in
theorem part_in (k : Nat) (i : Int) (a : List Int) (P : List (List Int)) (y z : Int) (p : List Int) (hp : p.length ≤ 1000) : ∀ (r : List Int) (j n : Nat), r.length < j → p.drop n = r → n ≤ p.length →
    l1 k j i a P y z p (p.length : Int) (n : Int) = some (if r.contains i = true then .ret a else .x0 i P y z) := by
  intro r
  induction r with
  | nil =>
    intro j n hj hr hn
    obtain ⟨j, rfl⟩ : ∃ i, j = i + 1 := ⟨j - 1, by simp at hj; omega⟩
    have := uf4 hr hn
    show l1_b k (l1 k j) _ _ _ _ _ _ _ _ = _
    unfold l1_b; rw [if_neg (by omega), if_neg (by simp)]
  | cons b r ih =>
    intro j n hj hr hn
    obtain ⟨j, rfl⟩ : ∃ i, j = i + 1 := ⟨j - 1, by simp at hj; omega⟩
    obtain ⟨g1, g2, g3, g4⟩ := ue3 hr
    simp only [List.length_cons] at hj
    show l1_b k (l1 k j) _ _ _ _ _ _ _ _ = _
    unfold l1_b
    rw [if_pos (by omega), g2, Option.bind_some]
    by_cases hb : b = i
    · rw [if_pos hb, if_pos (by simp [hb])]
    · rw [if_neg hb, uc4 (by omega), ih j (n + 1) (by omega) g3 (by omega)]
      have : (b :: r).contains i = r.contains i := by
        simp only [List.contains_cons]
        have : (i == b) = false := by simpa using fun h => hb h.symm
        rw [this, Bool.false_or]
      rw [this]

open F43 in
theorem part_loop (k : Nat) (i : Int) (P : List (List Int)) (hP : P.length ≤ 1000) (hp : ∀ p ∈ P, p.length ≤ 1000 ∧ p.length < k) : ∀ (r : List (List Int)) (j n : Nat), r.length < j → P.drop n = r → n ≤ P.length →
    l0 k j i P (P.length : Int) (n : Int) = some (match r.find? (fun p => p.contains i) with | some p => .ret p | none => .x0) := by
  intro r
  induction r with
  | nil =>
    intro j n hj hr hn
    obtain ⟨j, rfl⟩ : ∃ i, j = i + 1 := ⟨j - 1, by simp at hj; omega⟩
    have := uf4 hr hn
    show l0_b k (l0 k j) _ _ _ _ = _
    unfold l0_b; rw [if_neg (by omega)]; rfl
  | cons b r ih =>
    intro j n hj hr hn
    obtain ⟨j, rfl⟩ : ∃ i, j = i + 1 := ⟨j - 1, by simp at hj; omega⟩
    obtain ⟨g1, g2, g3, g4⟩ := ue3 hr
    simp only [List.length_cons] at hj
    have hb := hp b (List.mem_of_getElem? g4)
    show l0_b k (l0 k j) _ _ _ _ = _
    unfold l0_b
    have e0 : ((0 : Nat) : Int) = 0 := rfl
    have := part_in k i b P (P.length : Int) (n : Int) b hb.1 b k 0 hb.2 rfl (by omega)
    rw [e0] at this
    rw [if_pos (by omega), g2, Option.bind_some, this, Option.bind_some, List.find?_cons]
    by_cases hc : b.contains i = true
    · rw [if_pos hc, hc]
    · rw [if_neg hc]
      have hc' : b.contains i = false := by simpa using hc
      rw [hc']
      show F43.c1 k (l0 k j) _ _ _ _ = _
      unfold F43.c1
      rw [uc4 (by omega), ih j (n + 1) (by omega) g3 (by omega)]

theorem uh4 (L : List ua0) : (partsS L).length ≤ L.length + 1 ∧ ∀ p ∈ partsS L, p ≠ [] ∧ inR L.length p ∧ p.length ≤ L.length := runs_ok _ _ _

theorem up2 (k : Nat) (L : List ua0) (i : Int) (hL : L.length ≤ 900) (hk : L.length + 1 < k) : F43 k L i = some (ptS (partsS L) i) := by
  unfold F43 F43.b
  obtain ⟨h1, h2⟩ := uh4 L
  rw [parts_val k L (by omega) (by omega), Option.bind_some]
  have := part_loop k i (partsS L) (by omega) (fun p hp => by have := (h2 p hp).2.2; omega) (partsS L) k 0 (by omega) rfl (by omega)
  have e0 : ((0 : Nat) : Int) = 0 := rfl
  rw [e0] at this
  rw [this]
  unfold ptS
  cases (partsS L).find? (fun p => p.contains i) <;> rfl

theorem ptS_ok (L : List ua0) (i : Int) : inR L.length (ptS (partsS L) i) ∧ (ptS (partsS L) i).length ≤ L.length := by
  unfold ptS
  cases h : (partsS L).find? (fun p => p.contains i) with
  | none => exact ⟨fun i hi => absurd hi (by simp), by simp⟩
  | some p => exact ⟨((uh4 L).2 p (List.mem_of_find?_eq_some h)).2.1, ((uh4 L).2 p (List.mem_of_find?_eq_some h)).2.2⟩

theorem bad_val (k : Nat) (L : List ua0) (p : List Int) (hp : p.length ≤ 1000) (hin : inR L.length p) (hk : p.length < k) : F37 k L p = some (badS L p) := by
  unfold F37 F37.b badS
  by_cases h2 : (p.length : Int) = 2
  case neg => rw [if_neg h2, decide_eq_false (fun h => h2 (by omega))]
  have h2' : p.length = 2 := by omega
  obtain ⟨x, y, rfl⟩ : ∃ x y, p = [x, y] := by
    match p, h2' with
    | [x, y], _ => exact ⟨x, y, rfl⟩
  have hx := hin x (by simp); have hy := hin y (by simp)
  rw [if_pos h2, show elt [x, y] 0 = some x from rfl, Option.bind_some, ud5 hx.1 hx.2, Option.bind_some]
  by_cases h3 : (ati L x).Dim = 1
  case neg => rw [if_neg h3, decide_eq_false (fun h => h3 h.2.1)]
  rw [if_pos h3, show elt [x, y] 1 = some y from rfl, Option.bind_some, ud5 hy.1 hy.2, Option.bind_some]
  by_cases h4 : (ati L y).Dim = 1
  case neg => rw [if_neg h4, decide_eq_false (fun h => h4 h.2.2.1)]
  rw [if_pos h4, total_val k L [x, y] hp hin hk, Option.bind_some]
  congr 1
  by_cases h5 : Int.tmod (totS L [x, y]) 4 = 0
  · rw [h5, decide_eq_true ⟨rfl, h3, h4, rfl⟩]; rfl
  · rw [decide_eq_false (fun h => h5 h.2.2.2)]; simpa using h5

/-- can a sign walk from i to i - 1 -/
def lkS (L : List ua0) (i : Int) : Bool :=
  if IntKind.wrap .i64 ((ati L i).Exp - (ati L (i - 1)).Exp) = 1 then
    if (ati L (i - 1)).Odd = (ati L i).Odd then (if (ati L (i - 1)).Odd = true then !(badS L (ptS (partsS L) i)) else false) else true
  else if IntKind.wrap .i64 ((ati L i).Exp - (ati L (i - 1)).Exp) = 2 then (if (ati L (i - 1)).Odd = true then (ati L i).Odd else false) else false

theorem linked_val (k : Nat) (L : List ua0) (i : Int) (hL : L.length ≤ 900) (hk : L.length + 1 < k) (h1 : 1 ≤ i) (h2 : i < (L.length : Int)) : F27 k L i = some (lkS L i) := by
  unfold F27 F27.b lkS
  have hw : IntKind.wrap .i64 (i - 1) = i - 1 := ud0 (by omega) (by omega)
  rw [hw, ud5 (by omega) (by omega), Option.bind_some, ud5 (by omega) h2, Option.bind_some]
  by_cases e1 : IntKind.wrap .i64 ((ati L i).Exp - (ati L (i - 1)).Exp) = 1
  · rw [if_pos e1, if_pos e1]
    by_cases e2 : (ati L (i - 1)).Odd = (ati L i).Odd
    · rw [if_pos e2, if_pos e2]
      by_cases e3 : (ati L (i - 1)).Odd = true
      · obtain ⟨q1, q2⟩ := ptS_ok L i
        rw [if_pos e3, if_pos e3, up2 k L i hL hk, Option.bind_some, bad_val k L _ (by omega) q1 (by omega)]
        rfl
      · rw [if_neg e3, if_neg e3]
    · rw [if_neg e2, if_neg e2]
  · rw [if_neg e1, if_neg e1]
    by_cases e4 : IntKind.wrap .i64 ((ati L i).Exp - (ati L (i - 1)).Exp) = 2
    · rw [if_pos e4, if_pos e4]
      by_cases e3 : (ati L (i - 1)).Odd = true
      · rw [if_pos e3, if_pos e3]
      · rw [if_neg e3, if_neg e3]
    · rw [if_neg e4, if_neg e4]

end Go.Cn
