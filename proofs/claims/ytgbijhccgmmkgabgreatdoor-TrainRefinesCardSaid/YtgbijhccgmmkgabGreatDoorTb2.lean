/- Compartments and links: what the program computes. -/
import Derived.Test.YtgbijhccgmmkgabGreatDoorTf13m0
import Derived.Test.YtgbijhccgmmkgabGreatDoorTy13
import Derived.Test.YtgbijhccgmmkgabGreatDoorProg
import Derived.Test.YtgbijhccgmmkgabGreatDoorTc1
import Derived.Test.YtgbijhccgmmkgabGreatDoorTa2
set_option linter.unusedVariables false
noncomputable section
namespace Go.Cn

def expOk (L : List ua0) : Prop := ∀ i : Nat, i < L.length → 0 ≤ (ati L (i : Int)).Exp ∧ (ati L (i : Int)).Exp ≤ 60

def cval0 : F35.O0 → List (List Int)
  | .x0 => []
  | .x1 g x => g ++ [[x]]
  | .x2 g l => g ++ [l]

def joiP (L : List ua0) (i : Nat) : Bool := (ati L (i : Int)).Exp == IntKind.wrap .i64 ((ati L ((i - 1 : Nat) : Int)).Exp + 1)

theorem uf6 (k : Nat) (p : Int) (L : List ua0) (n : Nat) (hn : n < L.length) : F38 k (n : Int) p L = some (memS L n) := by
  unfold F38 F38.b
  rw [ui4 (by omega) (by omega)]; rfl
theorem joi_val (k : Nat) (p : Int) (L : List ua0) (n : Nat) (hn : n < L.length) (h0 : 0 < n) (hL : L.length ≤ 1000) : F40 k (n : Int) p L = some (joiP L n) := by
  unfold F40 F40.b
  have hw : IntKind.wrap .i64 ((n : Int) - 1) = ((n - 1 : Nat) : Int) := by rw [uc5 (by omega) (by omega)]; omega
  rw [ui4 (by omega) (by omega), Option.bind_some, hw, ui4 (by omega) (by omega)]; rfl

open F35 in
theorem collect0_val (k : Nat) (p : Int) (L : List ua0) (hL : L.length ≤ 1000) (hk : L.length < k) : F35 k (L.length : Int) p L p L = some (runs (memS L) (joiP L) L.length) := by
  have wp : ∀ n : Nat, 0 < n → n ≤ 1000 → IntKind.wrap .i64 ((n : Int) - 1) = ((n - 1 : Nat) : Int) := fun n h1 h2 => by rw [uc5 (by omega) (by omega)]; omega
  have key := runs_gen L.length (memS L) (joiP L) cval0 (fun j n => l0 k j p L p L (L.length : Int) (n : Int)) (fun j n g x => l0b k j p L p L g x (L.length : Int) (n : Int)) (fun j n g l => l0c k j p L p L g l (L.length : Int) (n : Int))
    (fun j => ⟨.x0, by show l0_b k (l0 k j) (l0b k j) (l0c k j) _ _ _ _ _ _ = _; unfold l0_b; rw [if_neg (by omega)], rfl⟩)
    (fun j g x => ⟨.x1 g x, by show l0b_b k (l0 k j) (l0b k j) (l0c k j) _ _ _ _ _ _ _ _ = _; unfold l0b_b; rw [if_neg (by omega)], rfl⟩)
    (fun j g l => ⟨.x2 g l, by show l0c_b k (l0 k j) (l0b k j) (l0c k j) _ _ _ _ _ _ _ _ = _; unfold l0c_b; rw [if_neg (by omega)], rfl⟩)
    (fun j n hn => by
      have e : l0 k (j + 1) p L p L (L.length : Int) (n : Int) = l0_b k (l0 k j) (l0b k j) (l0c k j) p L p L (L.length : Int) (n : Int) := rfl
      refine ⟨fun hm => ?_, fun hm hj => ?_⟩
      · rw [e]; unfold l0_b; rw [if_pos (by omega), uf6 k p L n hn, Option.bind_some, hm, if_neg (by decide), uc8 (by omega)]
      · rw [e]; unfold l0_b; rw [if_pos (by omega), uf6 k p L n hn, Option.bind_some, if_pos hm, uc8 (by omega)]
        by_cases h0 : (n : Int) > 0
        · rw [if_pos h0, wp n (by omega) (by omega), uf6 k p L (n - 1) (by omega), Option.bind_some]
          by_cases h1 : memS L (n - 1) = true
          · rw [if_pos h1, joi_val k p L n hn (by omega) hL, Option.bind_some, if_neg (fun h2 => hj ⟨⟨by omega, h1⟩, h2⟩)]
          · rw [if_neg h1]
        · rw [if_neg h0])
    (fun j n g x hn hg => by
      have e : l0b k (j + 1) p L p L g x (L.length : Int) (n : Int) = l0b_b k (l0 k j) (l0b k j) (l0c k j) p L p L g x (L.length : Int) (n : Int) := rfl
      have hg' : g.length < 1073741824 := by omega
      refine ⟨fun hm => ?_, fun hm hj => ?_, fun hm hj => ?_⟩
      · rw [e]; unfold l0b_b; rw [if_pos (by omega), uf6 k p L n hn, Option.bind_some, hm, if_neg (by decide), uc8 (by omega)]
      · have h0 := hj.1.1
        rw [e]; unfold l0b_b; rw [if_pos (by omega), uf6 k p L n hn, Option.bind_some, if_pos hm, uc8 (by omega), if_pos (by omega), wp n (by omega) (by omega), uf6 k p L (n - 1) (by omega), Option.bind_some, if_pos hj.1.2, joi_val k p L n hn (by omega) hL, Option.bind_some, if_pos hj.2, if_pos hg']
      · rw [e]; unfold l0b_b; rw [if_pos (by omega), uf6 k p L n hn, Option.bind_some, if_pos hm, uc8 (by omega)]
        by_cases h0 : (n : Int) > 0
        · rw [if_pos h0, wp n (by omega) (by omega), uf6 k p L (n - 1) (by omega), Option.bind_some]
          by_cases h1 : memS L (n - 1) = true
          · rw [if_pos h1, joi_val k p L n hn (by omega) hL, Option.bind_some, if_neg (fun h2 => hj ⟨⟨by omega, h1⟩, h2⟩), if_pos hg']
          · rw [if_neg h1, if_pos hg']
        · rw [if_neg h0, if_pos hg'])
    (fun j n g l hn hg hl => by
      have e : l0c k (j + 1) p L p L g l (L.length : Int) (n : Int) = l0c_b k (l0 k j) (l0b k j) (l0c k j) p L p L g l (L.length : Int) (n : Int) := rfl
      have hg' : g.length < 1073741824 := by omega
      have hl' : l.length < 1073741824 := by omega
      refine ⟨fun hm => ?_, fun hm hj => ?_, fun hm hj => ?_⟩
      · rw [e]; unfold l0c_b; rw [if_pos (by omega), uf6 k p L n hn, Option.bind_some, hm, if_neg (by decide), uc8 (by omega)]
      · have h0 := hj.1.1
        rw [e]; unfold l0c_b; rw [if_pos (by omega), uf6 k p L n hn, Option.bind_some, if_pos hm, uc8 (by omega), if_pos (by omega), wp n (by omega) (by omega), uf6 k p L (n - 1) (by omega), Option.bind_some, if_pos hj.1.2, joi_val k p L n hn (by omega) hL, Option.bind_some, if_pos hj.2, if_pos hg', if_pos hl']
      · rw [e]; unfold l0c_b; rw [if_pos (by omega), uf6 k p L n hn, Option.bind_some, if_pos hm, uc8 (by omega)]
        by_cases h0 : (n : Int) > 0
        · rw [if_pos h0, wp n (by omega) (by omega), uf6 k p L (n - 1) (by omega), Option.bind_some]
          by_cases h1 : memS L (n - 1) = true
          · rw [if_pos h1, joi_val k p L n hn (by omega) hL, Option.bind_some, if_neg (fun h2 => hj ⟨⟨by omega, h1⟩, h2⟩), if_pos hg']
          · rw [if_neg h1, if_pos hg']
        · rw [if_neg h0, if_pos hg'])
  obtain ⟨o, ho, hv⟩ := key k hk
  unfold F35 F35.b
  have e0 : ((0 : Nat) : Int) = 0 := rfl
  rw [e0] at ho
  rw [ho, ← hv]
  cases o <;> rfl

theorem joi_same {L : List ua0} (hE : expOk L) {n : Nat} (hn : n < L.length) (h0 : 0 < n) : joiP L n = joiS L n := by
  unfold joiP joiS
  have h1 := hE n hn
  have h2 := hE (n - 1) (by omega)
  rw [uc5 (by omega) (by omega), uc5 (by omega) (by omega)]
  by_cases h : (ati L ((n - 1 : Nat) : Int)).Exp = (ati L (n : Int)).Exp - 1
  · rw [decide_eq_true h]
    have : (ati L (n : Int)).Exp = (ati L ((n - 1 : Nat) : Int)).Exp + 1 := by omega
    simpa using this
  · rw [decide_eq_false h]
    have : ¬ (ati L (n : Int)).Exp = (ati L ((n - 1 : Nat) : Int)).Exp + 1 := by omega
    simpa using this

theorem ug5 (k : Nat) (p : Int) (L : List ua0) (hL : L.length ≤ 1000) (hk : L.length < k) (hE : expOk L) : F37 k p L = some (partsS L) := by
  unfold F37 F37.b
  rw [collect0_val k p L hL hk, Option.bind_some]
  unfold partsS
  rw [runs_congr (mem := memS L) (joi := joiP L) (joi' := joiS L) (fun n hn h0 _ _ => joi_same hE hn h0)]

open F51 in
theorem totalP_loop (k : Nat) (z : Int) (L : List ua0) (p : List Int) (hp : p.length ≤ 1000) (hin : inR L.length p) : ∀ (r : List Int) (j n : Nat) (s : Int), r.length < j → p.drop n = r → n ≤ p.length →
    l0 k j z L s p (p.length : Int) (n : Int) = some (totF L s r) := by
  intro r
  induction r with
  | nil =>
    intro j n s hj hr hn
    obtain ⟨j, rfl⟩ : ∃ i, j = i + 1 := ⟨j - 1, by simp at hj; omega⟩
    have := uh1 hr hn
    show l0_b k (l0 k j) _ _ _ _ _ _ = _
    unfold l0_b; rw [if_neg (by omega)]; rfl
  | cons b r ih =>
    intro j n s hj hr hn
    obtain ⟨j, rfl⟩ : ∃ i, j = i + 1 := ⟨j - 1, by simp at hj; omega⟩
    obtain ⟨g1, g2, g3, g4⟩ := ue8 hr
    simp only [List.length_cons] at hj
    have hb := hin b (List.mem_of_getElem? g4)
    show l0_b k (l0 k j) _ _ _ _ _ _ = _
    unfold l0_b
    rw [if_pos (by omega), g2, Option.bind_some, ui4 hb.1 hb.2, Option.bind_some, uc8 (by omega), ih j (n + 1) _ (by omega) g3 (by omega)]
    rfl
theorem totalP_val (k : Nat) (z : Int) (L : List ua0) (p : List Int) (hp : p.length ≤ 1000) (hin : inR L.length p) (hk : p.length < k) : F51 k z L p = some (totS L p) := by
  unfold F51 F51.b
  have := totalP_loop k z L p hp hin p k 0 0 hk rfl (by omega)
  have e0 : ((0 : Nat) : Int) = 0 := rfl
  rw [e0] at this
  rw [this]
  rfl

end Go.Cn
