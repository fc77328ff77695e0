/- Trains: what the document and the program compute. -/
import Derived.Test.YtgbijhccgmmkgabGreatDoorTf13m11
import Derived.Test.YtgbijhccgmmkgabGreatDoorTf13m6
import Derived.Test.YtgbijhccgmmkgabGreatDoorTb2
import Derived.Test.YtgbijhccgmmkgabGreatDoorTc3
set_option linter.unusedVariables false
noncomputable section
namespace Go.Cn

def trS (L : List ua0) : List (List Int) := runs (fun _ => true) (fun i => lkS L (i : Int)) L.length

def chval : F15.O0 → List (List Int)
  | .x0 => []
  | .x1 g x => g ++ [[x]]
  | .x2 g l => g ++ [l]

open F15 in
theorem chains_val (k : Nat) (L : List ua0) (hL : L.length ≤ 900) (hk : L.length + 1 < k) : F15 k L = some (trS L) := by
  have lk : ∀ n : Nat, 0 < n → n < L.length → F27 k L (n : Int) = some (lkS L (n : Int)) := fun n h1 h2 => linked_val k L n hL hk (by omega) (by omega)
  have key := runs_gen L.length (fun _ => true) (fun i => lkS L (i : Int)) chval (fun j n => l0 k j L (L.length : Int) (n : Int)) (fun j n g x => l0b k j g x L (L.length : Int) (n : Int)) (fun j n g l => l0c k j g l L (L.length : Int) (n : Int))
    (fun j => ⟨.x0, by show l0_b k (l0 k j) (l0b k j) (l0c k j) _ _ _ = _; unfold l0_b; rw [if_neg (by omega)], rfl⟩)
    (fun j g x => ⟨.x1 g x, by show l0b_b k (l0 k j) (l0b k j) (l0c k j) _ _ _ _ _ = _; unfold l0b_b; rw [if_neg (by omega)], rfl⟩)
    (fun j g l => ⟨.x2 g l, by show l0c_b k (l0 k j) (l0b k j) (l0c k j) _ _ _ _ _ = _; unfold l0c_b; rw [if_neg (by omega)], rfl⟩)
    (fun j n hn => by
      have e : l0 k (j + 1) L (L.length : Int) (n : Int) = l0_b k (l0 k j) (l0b k j) (l0c k j) L (L.length : Int) (n : Int) := rfl
      refine ⟨fun hm => by simp at hm, fun hm hj => ?_⟩
      rw [e]; unfold l0_b; rw [if_pos (by omega), uc4 (by omega)]
      by_cases h0 : (n : Int) > 0
      · rw [if_pos h0, lk n (by omega) hn, Option.bind_some, if_neg (fun h2 => hj ⟨⟨by omega, rfl⟩, h2⟩)]
      · rw [if_neg h0])
    (fun j n g x hn hg => by
      have e : l0b k (j + 1) g x L (L.length : Int) (n : Int) = l0b_b k (l0 k j) (l0b k j) (l0c k j) g x L (L.length : Int) (n : Int) := rfl
      have hg' : g.length < 1073741824 := by omega
      refine ⟨fun hm => by simp at hm, fun hm hj => ?_, fun hm hj => ?_⟩
      · have h0 := hj.1.1
        rw [e]; unfold l0b_b; rw [if_pos (by omega), uc4 (by omega), if_pos (by omega), lk n h0 hn, Option.bind_some, if_pos hj.2, if_pos hg']
      · rw [e]; unfold l0b_b; rw [if_pos (by omega), uc4 (by omega)]
        by_cases h0 : (n : Int) > 0
        · rw [if_pos h0, lk n (by omega) hn, Option.bind_some, if_neg (fun h2 => hj ⟨⟨by omega, rfl⟩, h2⟩), if_pos hg']
        · rw [if_neg h0, if_pos hg'])
    (fun j n g l hn hg hl => by
      have e : l0c k (j + 1) g l L (L.length : Int) (n : Int) = l0c_b k (l0 k j) (l0b k j) (l0c k j) g l L (L.length : Int) (n : Int) := rfl
      have hg' : g.length < 1073741824 := by omega
      have hl' : l.length < 1073741824 := by omega
      refine ⟨fun hm => by simp at hm, fun hm hj => ?_, fun hm hj => ?_⟩
      · have h0 := hj.1.1
        rw [e]; unfold l0c_b; rw [if_pos (by omega), uc4 (by omega), if_pos (by omega), lk n h0 hn, Option.bind_some, if_pos hj.2, if_pos hg', if_pos hl']
      · rw [e]; unfold l0c_b; rw [if_pos (by omega), uc4 (by omega)]
        by_cases h0 : (n : Int) > 0
        · rw [if_pos h0, lk n (by omega) hn, Option.bind_some, if_neg (fun h2 => hj ⟨⟨by omega, rfl⟩, h2⟩), if_pos hg']
        · rw [if_neg h0, if_pos hg'])
  obtain ⟨o, ho, hv⟩ := key k (by omega)
  unfold F15 F15.b trS
  have e0 : ((0 : Nat) : Int) = 0 := rfl
  rw [e0] at ho
  rw [ho, ← hv]
  cases o <;> rfl

end Go.Cn
