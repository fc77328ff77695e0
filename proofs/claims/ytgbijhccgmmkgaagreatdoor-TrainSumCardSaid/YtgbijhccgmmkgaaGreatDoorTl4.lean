/- The law of the sum of raw symbols. -/
import Derived.Test.YtgbijhccgmmkgaaGreatDoorTf11m22
import Derived.Test.YtgbijhccgmmkgaaGreatDoorTf11m3
import Derived.Test.YtgbijhccgmmkgaaGreatDoorTf11m7
import Derived.Test.YtgbijhccgmmkgaaGreatDoorTl3
import Derived.Test.YtgbijhccgmmkgaaGreatDoorSn1
set_option linter.unusedVariables false
noncomputable section
open Classical
namespace Go.Cn

/-- The plain law. -/
theorem lawTrainSum (p0_Prime : Int) (p0_List : List Constituent) (p1_Prime : Int) (p1_List : List Constituent) (p2_Prime : Int) (p2_Parts : List A5u8) (p3_Prime : Int) (p3_Parts : List A5u8) (p4 : Bool) (h2' : okL ok_A5u8 p2_Parts) (h3' : okL ok_A5u8 p3_Parts) :
    Fquadformlaw27_TrainSum 2000 p0_Prime p0_List p1_Prime p1_List p2_Prime p2_Parts p3_Prime p3_Parts p4 = some true := by
  unfold Fquadformlaw27_TrainSum Fquadformlaw27_TrainSum.b Fquadformlaw27_long Fquadformlaw27_long.b Fquadformlaw27_many Fquadformlaw27_many.b
  rw [Option.bind_some]
  by_cases l1 : (p0_List.length : Int) > 20
  · rw [if_pos (by simpa using l1)]; rfl
  rw [if_neg (by simpa using l1), Option.bind_some]
  by_cases l2 : (p1_List.length : Int) > 20
  · rw [if_pos (by simpa using l2)]; rfl
  rw [if_neg (by simpa using l2), Option.bind_some]
  by_cases l3 : (p2_Parts.length : Int) > 20
  · rw [if_pos (by simpa using l3)]; rfl
  rw [if_neg (by simpa using l3), Option.bind_some]
  by_cases l4 : (p3_Parts.length : Int) > 20
  · rw [if_pos (by simpa using l4)]; rfl
  rw [if_neg (by simpa using l4)]
  have c0 : ∀ (p q : Int) (a b : List Constituent), a.length ≤ 20 → b.length ≤ 20 → Fquadformlaw27_TrainSum.c0 2000 p a q b = some true := by
    intro p q a b la lb
    unfold Fquadformlaw27_TrainSum.c0
    have hlen := addT_len _ a b (Nat.le_refl _)
    rw [sumTP_val 2000 (by decide) p q a b (by omega) (by omega), Option.bind_some, sumTR_val 2000 (by decide) p q a b (by omega) (by omega), Option.bind_some, if_pos rfl]
    have hb : ((if (p = 2 ∧ raw2 a) ∧ (q = 2 ∧ raw2 b) ∧ raw2 (addT a b) then (2, addT a b, (0 : Int)) else ((0 : Int), ([] : List Constituent), (22 : Int))).2.1).length ≤ 40 := by
      split
      · show (addT a b).length ≤ 40; omega
      · simp
    rw [same_sym 2000 _ _ (by omega) (by omega), Option.bind_some, if_pos rfl]
    rfl
  cases p4 with
  | false => rw [if_neg (by decide)]; exact c0 _ _ _ _ (by omega) (by omega)
  | true =>
    obtain ⟨a, ea, ra, _⟩ := raw_val 2000 5 (by decide) (by decide) p2_Prime p2_Parts (by omega) h2'.2 (by omega)
    obtain ⟨b, eb, rb, _⟩ := raw_val 2000 4 (by decide) (by decide) p3_Prime p3_Parts (by omega) h3'.2 (by omega)
    have h1 := ordR_len ra.1; have h2 := ordR_len rb.1
    rw [if_pos rfl, ea, Option.bind_some, eb, Option.bind_some]
    exact c0 2 2 a b (by omega) (by omega)

end Go.Cn
