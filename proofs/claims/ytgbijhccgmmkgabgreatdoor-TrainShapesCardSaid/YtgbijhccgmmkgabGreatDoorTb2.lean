/- Compartments and links: what the program computes. -/
import Derived.Test.YtgbijhccgmmkgabGreatDoorTf13m0
import Derived.Test.YtgbijhccgmmkgabGreatDoorTf13m4
import Derived.Test.YtgbijhccgmmkgabGreatDoorTc1
import Derived.Test.YtgbijhccgmmkgabGreatDoorTa2
set_option linter.unusedVariables false
noncomputable section
namespace Go.Cn

def expOk (L : List ua0) : Prop := ∀ i : Nat, i < L.length → 0 ≤ (ati L (i : Int)).Exp ∧ (ati L (i : Int)).Exp ≤ 60

def cval0 : F77.O0 → List (List Int)
  | .x0 => []
  | .x1 g x => g ++ [[x]]
  | .x2 g l => g ++ [l]

def joiP (L : List ua0) (i : Nat) : Bool := (ati L (i : Int)).Exp == IntKind.wrap .i64 ((ati L ((i - 1 : Nat) : Int)).Exp + 1)

theorem uh7 (k : Nat) (p : Int) (L : List ua0) (n : Nat) (hn : n < L.length) : F82 k (n : Int) p L = some (memS L n) := by
  unfold F82 F82.b
  rw [ud5 (by omega) (by omega)]; rfl
theorem joi_val (k : Nat) (p : Int) (L : List ua0) (n : Nat) (hn : n < L.length) (h0 : 0 < n) (hL : L.length ≤ 1000) : F84 k (n : Int) p L = some (joiP L n) := by
  unfold F84 F84.b
  have hw : IntKind.wrap .i64 ((n : Int) - 1) = ((n - 1 : Nat) : Int) := by rw [ud0 (by omega) (by omega)]; omega
  rw [ud5 (by omega) (by omega), Option.bind_some, hw, ud5 (by omega) (by omega)]; rfl

open F77 in
theorem collect0_val (k : Nat) (p : Int) (L : List ua0) (hL : L.length ≤ 1000) (hk : L.length < k) : F77 k (L.length : Int) p L p L = some (runs (memS L) (joiP L) L.length) := by
  have wp : ∀ n : Nat, 0 < n → n ≤ 1000 → IntKind.wrap .i64 ((n : Int) - 1) = ((n - 1 : Nat) : Int) := fun n h1 h2 => by rw [ud0 (by omega) (by omega)]; omega
  have key := runs_gen L.length (memS L) (joiP L) cval0 (fun j n => l0 k j p L p L (L.length : Int) (n : Int)) (fun j n g x => l0b k j p L p L g x (L.length : Int) (n : Int)) (fun j n g l => l0c k j p L p L g l (L.length : Int) (n : Int))
    (fun j => ⟨.x0, by show l0_b k (l0 k j) (l0b k j) (l0c k j) _ _ _ _ _ _ = _; unfold l0_b; rw [if_neg (by omega)], rfl⟩)
    (fun j g x => ⟨.x1 g x, by show l0b_b k (l0 k j) (l0b k j) (l0c k j) _ _ _ _ _ _ _ _ = _; unfold l0b_b; rw [if_neg (by omega)], rfl⟩)
    (fun j g l => ⟨.x2 g l, by show l0c_b k (l0 k j) (l0b k j) (l0c k j) _ _ _ _ _ _ _ _ = _; unfold l0c_b; rw [if_neg (by omega)], rfl⟩)
    (fun j n hn => by
      have e : l0 k (j + 1) p L p L (L.length : Int) (n : Int) = l0_b k (l0 k j) (l0b k j) (l0c k j) p L p L (L.length : Int) (n : Int) := rfl
      refine ⟨fun hm => ?_, fun hm hj => ?_⟩
      · rw [e]; unfold l0_b; rw [if_pos (by omega), uh7 k p L n hn, Option.bind_some, hm, if_neg (by decide), uc4 (by omega)]
      · rw [e]; unfold l0_b; rw [if_pos (by omega), uh7 k p L n hn, Option.bind_some, if_pos hm, uc4 (by omega)]
        by_cases h0 : (n : Int) > 0
        · rw [if_pos h0, wp n (by omega) (by omega), uh7 k p L (n - 1) (by omega), Option.bind_some]
          by_cases h1 : memS L (n - 1) = true
          · rw [if_pos h1, joi_val k p L n hn (by omega) hL, Option.bind_some, if_neg (fun h2 => hj ⟨⟨by omega, h1⟩, h2⟩)]
          · rw [if_neg h1]
        · rw [if_neg h0])
    (fun j n g x hn hg => by
      have e : l0b k (j + 1) p L p L g x (L.length : Int) (n : Int) = l0b_b k (l0 k j) (l0b k j) (l0c k j) p L p L g x (L.length : Int) (n : Int) := rfl
      have hg' : g.length < 1073741824 := by omega
      refine ⟨fun hm => ?_, fun hm hj => ?_, fun hm hj => ?_⟩
      · rw [e]; unfold l0b_b; rw [if_pos (by omega), uh7 k p L n hn, Option.bind_some, hm, if_neg (by decide), uc4 (by omega)]
      · have h0 := hj.1.1
        rw [e]; unfold l0b_b; rw [if_pos (by omega), uh7 k p L n hn, Option.bind_some, if_pos hm, uc4 (by omega), if_pos (by omega), wp n (by omega) (by omega), uh7 k p L (n - 1) (by omega), Option.bind_some, if_pos hj.1.2, joi_val k p L n hn (by omega) hL, Option.bind_some, if_pos hj.2, if_pos hg']
      · rw [e]; unfold l0b_b; rw [if_pos (by omega), uh7 k p L n hn, Option.bind_some, if_pos hm, uc4 (by omega)]
        by_cases h0 : (n : Int) > 0
        · rw [if_pos h0, wp n (by omega) (by omega), uh7 k p L (n - 1) (by omega), Option.bind_some]
          by_cases h1 : memS L (n - 1) = true
          · rw [if_pos h1, joi_val k p L n hn (by omega) hL, Option.bind_some, if_neg (fun h2 => hj ⟨⟨by omega, h1⟩, h2⟩), if_pos hg']
          · rw [if_neg h1, if_pos hg']
        · rw [if_neg h0, if_pos hg'])
    (fun j n g l hn hg hl => by
      have e : l0c k (j + 1) p L p L g l (L.length : Int) (n : Int) = l0c_b k (l0 k j) (l0b k j) (l0c k j) p L p L g l (L.length : Int) (n : Int) := rfl
      have hg' : g.length < 1073741824 := by omega
      have hl' : l.length < 1073741824 := by omega
      refine ⟨fun hm => ?_, fun hm hj => ?_, fun hm hj => ?_⟩
      · rw [e]; unfold l0c_b; rw [if_pos (by omega), uh7 k p L n hn, Option.bind_some, hm, if_neg (by decide), uc4 (by omega)]
      · have h0 := hj.1.1
        rw [e]; unfold l0c_b; rw [if_pos (by omega), uh7 k p L n hn, Option.bind_some, if_pos hm, uc4 (by omega), if_pos (by omega), wp n (by omega) (by omega), uh7 k p L (n - 1) (by omega), Option.bind_some, if_pos hj.1.2, joi_val k p L n hn (by omega) hL, Option.bind_some, if_pos hj.2, if_pos hg', if_pos hl']
      · rw [e]; unfold l0c_b; rw [if_pos (by omega), uh7 k p L n hn, Option.bind_some, if_pos hm, uc4 (by omega)]
        by_cases h0 : (n : Int) > 0
        · rw [if_pos h0, wp n (by omega) (by omega), uh7 k p L (n - 1) (by omega), Option.bind_some]
          by_cases h1 : memS L (n - 1) = true
          · rw [if_pos h1, joi_val k p L n hn (by omega) hL, Option.bind_some, if_neg (fun h2 => hj ⟨⟨by omega, h1⟩, h2⟩), if_pos hg']
          · rw [if_neg h1, if_pos hg']
        · rw [if_neg h0, if_pos hg'])
  obtain ⟨o, ho, hv⟩ := key k hk
  unfold F77 F77.b
  have e0 : ((0 : Nat) : Int) = 0 := rfl
  rw [e0] at ho
  rw [ho, ← hv]
  cases o <;> rfl

theorem joi_same {L : List ua0} (hE : expOk L) {n : Nat} (hn : n < L.length) (h0 : 0 < n) : joiP L n = joiS L n := by
  unfold joiP joiS
  have h1 := hE n hn
  have h2 := hE (n - 1) (by omega)
  rw [ud0 (by omega) (by omega), ud0 (by omega) (by omega)]
  by_cases h : (ati L ((n - 1 : Nat) : Int)).Exp = (ati L (n : Int)).Exp - 1
  · rw [decide_eq_true h]
    have : (ati L (n : Int)).Exp = (ati L ((n - 1 : Nat) : Int)).Exp + 1 := by omega
    simpa using this
  · rw [decide_eq_false h]
    have : ¬ (ati L (n : Int)).Exp = (ati L ((n - 1 : Nat) : Int)).Exp + 1 := by omega
    simpa using this

theorem uj3 (k : Nat) (p : Int) (L : List ua0) (hL : L.length ≤ 1000) (hk : L.length < k) (hE : expOk L) : F81 k p L = some (partsS L) := by
  unfold F81 F81.b
  rw [collect0_val k p L hL hk, Option.bind_some]
  unfold partsS
  rw [runs_congr (mem := memS L) (joi := joiP L) (joi' := joiS L) (fun n hn h0 _ _ => joi_same hE hn h0)]

open F97 in
theorem totalP_loop (k : Nat) (z : Int) (L : List ua0) (p : List Int) (hp : p.length ≤ 1000) (hin : inR L.length p) : ∀ (r : List Int) (j n : Nat) (s : Int), r.length < j → p.drop n = r → n ≤ p.length →
    l0 k j z L s p (p.length : Int) (n : Int) = some (totF L s r) := by
  intro r
  induction r with
  | nil =>
    intro j n s hj hr hn
    obtain ⟨j, rfl⟩ : ∃ i, j = i + 1 := ⟨j - 1, by simp at hj; omega⟩
    have := uf4 hr hn
    show l0_b k (l0 k j) _ _ _ _ _ _ = _
    unfold l0_b; rw [if_neg (by omega)]; rfl
  | cons b r ih =>
    intro j n s hj hr hn
    obtain ⟨j, rfl⟩ : ∃ i, j = i + 1 := ⟨j - 1, by simp at hj; omega⟩
    obtain ⟨g1, g2, g3, g4⟩ := ue3 hr
    simp only [List.length_cons] at hj
    have hb := hin b (List.mem_of_getElem? g4)
    show l0_b k (l0 k j) _ _ _ _ _ _ = _
    unfold l0_b
    rw [if_pos (by omega), g2, Option.bind_some, ud5 hb.1 hb.2, Option.bind_some, uc4 (by omega), ih j (n + 1) _ (by omega) g3 (by omega)]
    rfl
theorem totalP_val (k : Nat) (z : Int) (L : List ua0) (p : List Int) (hp : p.length ≤ 1000) (hin : inR L.length p) (hk : p.length < k) : F97 k z L p = some (totS L p) := by
  unfold F97 F97.b
  have := totalP_loop k z L p hp hin p k 0 0 hk rfl (by omega)
  have e0 : ((0 : Nat) : Int) = 0 := rfl
  rw [e0] at this
  rw [this]
  rfl

theorem partsS_chn (L : List ua0) : Chn 0 (partsS L) L.length := runs_chn _ _ _

open F79 in
theorem compartment_loop (k : Nat) (i : Int) (P : List (List Int)) (hP : P.length ≤ 1000) (hi0 : 0 ≤ i) : ∀ (r : List (List Int)) (j n lo hi : Nat), r.length < j → P.drop n = r → n ≤ P.length → Chn lo r hi → hi ≤ 1000 →
    l0 k j i P (P.length : Int) (n : Int) = some (match r.find? (fun p => p.contains i) with | some p => .ret p | none => .x0) := by
  intro r
  induction r with
  | nil =>
    intro j n lo hi hj hr hn hc hh
    obtain ⟨j, rfl⟩ : ∃ i, j = i + 1 := ⟨j - 1, by simp at hj; omega⟩
    have := uf4 hr hn
    show l0_b k (l0 k j) _ _ _ _ = _
    unfold l0_b; rw [if_neg (by omega)]; rfl
  | cons b r ih =>
    intro j n lo hi hj hr hn hc hh
    obtain ⟨j, rfl⟩ : ∃ i, j = i + 1 := ⟨j - 1, by simp at hj; omega⟩
    obtain ⟨g1, g2, g3, g4⟩ := ue3 hr
    simp only [List.length_cons] at hj
    obtain ⟨a, m, c1, c2, c3⟩ := hc
    have hle := chn_le c3
    have h0 : elt b 0 = some (a : Int) := by
      have := iv_elt (a := a) (m := m + 1) (j := 0) (by omega)
      rw [← c2] at this
      exact this
    have hlen : b.length = m + 1 := by rw [c2, iv_len]
    have hlast : elt b (IntKind.wrap .i64 ((b.length : Int) - 1)) = some ((a + m : Nat) : Int) := by
      rw [hlen, wrap_pred (by omega), c2]
      exact iv_elt (by omega)
    show l0_b k (l0 k j) _ _ _ _ = _
    unfold l0_b
    rw [if_pos (by omega), g2, Option.bind_some, h0, Option.bind_some, List.find?_cons]
    have hcon : b.contains i = decide ((a : Int) ≤ i ∧ i < ((a + (m + 1) : Nat) : Int)) := by rw [c2]; exact iv_contains
    rw [hcon]
    have hih := ih j (n + 1) _ _ (by omega) g3 (by omega) c3 hh
    by_cases h1 : (a : Int) ≤ i
    · rw [if_pos h1, hlast, Option.bind_some]
      by_cases h2 : i ≤ ((a + m : Nat) : Int)
      · rw [if_pos h2, decide_eq_true (by omega)]
      · rw [if_neg h2, decide_eq_false (by omega), uc4 (by omega), hih]
    · rw [if_neg h1, decide_eq_false (by omega), uc4 (by omega), hih]

theorem compartment_val (k : Nat) (p : Int) (L : List ua0) (i : Int) (hL : L.length ≤ 900) (hk : L.length + 1 < k) (hE : expOk L) (hi : 0 ≤ i) : F79 k p L i = some (ptS (partsS L) i) := by
  unfold F79 F79.b
  obtain ⟨h1, h2⟩ := uh4 L
  rw [uj3 k p L (by omega) (by omega) hE, Option.bind_some]
  have := compartment_loop k i (partsS L) (by omega) hi (partsS L) k 0 _ _ (by omega) rfl (by omega) (partsS_chn L) (by omega)
  have e0 : ((0 : Nat) : Int) = 0 := rfl
  rw [e0] at this
  rw [this]
  unfold ptS
  cases (partsS L).find? (fun p => p.contains i) <;> rfl

theorem badP_val (k : Nat) (z : Int) (L : List ua0) (p : List Int) (hp : p.length ≤ 1000) (hin : inR L.length p) (hk : p.length < k) : F75 k z L p = some (badS L p) := by
  unfold F75 F75.b badS
  by_cases h2 : (p.length : Int) = 2
  case neg => rw [if_neg h2, decide_eq_false (fun h => h2 (by omega))]
  have h2' : p.length = 2 := by omega
  obtain ⟨x, y, rfl⟩ : ∃ x y, p = [x, y] := by
    match p, h2' with
    | [x, y], _ => exact ⟨x, y, rfl⟩
  have hx := hin x (by simp); have hy := hin y (by simp)
  rw [if_pos h2, show elt [x, y] 0 = some x from rfl, Option.bind_some, ud5 hx.1 hx.2, Option.bind_some]
  by_cases h3 : (ati L x).Dim = 1
  case neg => rw [if_neg h3, decide_eq_false (fun h => h3 h.2.1)]
  rw [if_pos h3, show elt [x, y] 1 = some y from rfl, Option.bind_some, ud5 hy.1 hy.2, Option.bind_some]
  by_cases h4 : (ati L y).Dim = 1
  case neg => rw [if_neg h4, decide_eq_false (fun h => h4 h.2.2.1)]
  rw [if_pos h4, totalP_val k z L [x, y] hp hin hk, Option.bind_some]
  congr 1
  by_cases h5 : Int.tmod (totS L [x, y]) 4 = 0
  · rw [h5, decide_eq_true ⟨rfl, h3, h4, rfl⟩]; rfl
  · rw [decide_eq_false (fun h => h5 h.2.2.2)]; simpa using h5

theorem linkedP_val (k : Nat) (p : Int) (L : List ua0) (i : Int) (hL : L.length ≤ 900) (hk : L.length + 1 < k) (hE : expOk L) (h1 : 1 ≤ i) (h2 : i < (L.length : Int)) : F89 k p L i = some (lkS L i) := by
  unfold F89 F89.b lkS
  have hw : IntKind.wrap .i64 (i - 1) = i - 1 := ud0 (by omega) (by omega)
  rw [hw, ud5 (by omega) (by omega), Option.bind_some, ud5 (by omega) h2, Option.bind_some]
  by_cases e1 : IntKind.wrap .i64 ((ati L i).Exp - (ati L (i - 1)).Exp) = 1
  · rw [if_pos e1, if_pos e1]
    by_cases e2 : (ati L (i - 1)).Odd = (ati L i).Odd
    · rw [if_pos e2, if_pos e2]
      by_cases e3 : (ati L (i - 1)).Odd = true
      · obtain ⟨q1, q2⟩ := ptS_ok L i
        rw [if_pos e3, if_pos e3, compartment_val k p L i hL hk hE (by omega), Option.bind_some, badP_val k p L _ (by omega) q1 (by omega)]
        rfl
      · rw [if_neg e3, if_neg e3]
    · rw [if_neg e2, if_neg e2]
  · rw [if_neg e1, if_neg e1]
    by_cases e4 : IntKind.wrap .i64 ((ati L i).Exp - (ati L (i - 1)).Exp) = 2
    · rw [if_pos e4, if_pos e4]
      by_cases e3 : (ati L (i - 1)).Odd = true
      · rw [if_pos e3, if_pos e3]
      · rw [if_neg e3, if_neg e3]
    · rw [if_neg e4, if_neg e4]

end Go.Cn
