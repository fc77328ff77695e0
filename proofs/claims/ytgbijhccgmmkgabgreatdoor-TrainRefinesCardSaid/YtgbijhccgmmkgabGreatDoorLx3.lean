/- The law that the refinement of a fused symbol is raw, fuses to it, and is least. -/
import Derived.Test.YtgbijhccgmmkgabGreatDoorTf13m0
import Derived.Test.YtgbijhccgmmkgabGreatDoorTf13m9
import Derived.Test.YtgbijhccgmmkgabGreatDoorLx2
import Derived.Test.YtgbijhccgmmkgabGreatDoorSn1
set_option linter.unusedVariables false
noncomputable section
open Classical
namespace Go.Cn

open F0 in
theorem rfs_loop (k : Nat) (x y : Int) (l o : List ua0) (hl : l.length ≤ 900) (h : Refd l o) : ∀ (r : List ua0) (j n : Nat), r.length < j → o.drop n = r → n ≤ o.length → (∀ j : Nat, j < n → (ati o (j : Int)).Oddity = (ati l (j : Int)).Oddity) →
    l0 k j x l y o (o.length : Int) (n : Int) = some .x0 ∨ l0 k j x l y o (o.length : Int) (n : Int) = some (.ret true) := by
  have hlen := h.len
  intro r
  induction r with
  | nil =>
    intro j n hj hr hn he
    obtain ⟨j, rfl⟩ : ∃ i, j = i + 1 := ⟨j - 1, by simp at hj; omega⟩
    have := uh1 hr hn
    left
    show l0_b k (l0 k j) _ _ _ _ _ _ = _
    unfold l0_b; rw [if_neg (by omega)]
  | cons b r ih =>
    intro j n hj hr hn he
    obtain ⟨j, rfl⟩ : ∃ i, j = i + 1 := ⟨j - 1, by simp at hj; omega⟩
    obtain ⟨g1, g2, g3, g4⟩ := ue8 hr
    simp only [List.length_cons] at hj
    have hb := drop_ati hr
    have hle := h.lex n (by omega) he
    have e : l0 k (j + 1) x l y o (o.length : Int) (n : Int) = l0_b k (l0 k j) x l y o (o.length : Int) (n : Int) := rfl
    rw [e]
    unfold l0_b
    rw [if_pos (by omega), g2, Option.bind_some, ui4 (by omega) (by omega), Option.bind_some, hb]
    by_cases c : (ati o (n : Int)).Oddity = (ati l (n : Int)).Oddity
    · rw [if_pos c, uc8 (by omega)]
      exact ih j (n + 1) (by omega) g3 (by omega) (fun i hi => by
        by_cases e : i = n
        · subst e; exact c
        · exact he i (by omega))
    · rw [if_neg c, if_pos (by omega)]
      exact .inr rfl

/-- The plain law. -/
theorem lawRefines (p0Pr : Int) (p0P : List A5u8) (h : okL up9 p0P) :
    F0 2000 p0Pr p0P = some true := by
  unfold F0 F0.b F7 F7.b
  rw [Option.bind_some]
  by_cases l2 : (p0P.length : Int) > 20
  · rw [if_pos (by simpa using l2)]; rfl
  rw [if_neg (by simpa using l2)]
  obtain ⟨l, hr, hraw, hd⟩ := raw_val 2000 8 (by decide) (by decide) p0Pr p0P (by omega) h.2 (by omega)
  have h8 := uj2 hraw.1
  obtain ⟨o, ho, hR⟩ := ref_fused hraw
  have hol := hR.len
  have hff := fused_fu hraw
  have hfl := un3 l
  have hV : refV 2 (fuS l) = (2, o, true) := by unfold refV; rw [if_pos ⟨rfl, hff⟩, ho]
  rw [hr, Option.bind_some]
  dsimp only
  have c1 : (2 : Int) = 2 ∧ raw2 l := ⟨rfl, hraw⟩
  have c2 : (2 : Int) = 2 ∧ raw2 o := ⟨rfl, hR.raw⟩
  rw [fuseP_val 2000 (by decide) 2 l (by omega), Option.bind_some, if_pos c1]
  dsimp only
  rw [refP_val 2000 (by decide) 2 (fuS l) (by omega), Option.bind_some, hV]
  dsimp only
  rw [fuseP_val 2000 (by decide) 2 o (by omega), Option.bind_some, if_pos c2]
  dsimp only
  rw [if_pos rfl, if_pos rfl, if_pos rfl, validT_val 2000 (by decide) 2 o (by omega) (by omega), Option.bind_some, if_pos (decide_eq_true c2), hR.fu, same_sym 2000 _ _ (by omega) (by omega), Option.bind_some, if_pos rfl, if_pos (by omega)]
  have e0 : ((0 : Nat) : Int) = 0 := rfl
  rcases rfs_loop 2000 2 2 l o (by omega) hR o 2000 0 (by omega) rfl (by omega) (fun j hj => by omega) with key | key
  · rw [e0] at key; rw [key]; rfl
  · rw [e0] at key; rw [key]; rfl

end Go.Cn
