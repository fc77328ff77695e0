/- The law of the legal constituents of dimension 1 to 3. -/
import Derived.Test.YtgbijhccgmmkgaaGreatDoorTf11m1
import Derived.Test.YtgbijhccgmmkgaaGreatDoorTf11m21
import Derived.Test.YtgbijhccgmmkgaaGreatDoorTb1a
set_option linter.unusedVariables false
noncomputable section
open Classical
namespace Go.Cn

open Fquadformlaw27_TrainLegalForms in
theorem forms_at (a S t : Int) (b1 b2 b3 : Bool) (h1 : l1 100 100 1 3 5 7 a S t 1 false 0 = some (1, 3, 5, 7, a, S, t, 1, b1)) (h2 : l1 100 100 1 3 5 7 a S t 2 false 0 = some (1, 3, 5, 7, a, S, t, 2, b2)) (h3 : l1 100 100 1 3 5 7 a S t 3 false 0 = some (1, 3, 5, 7, a, S, t, 3, b3))
    (g1 : ∀ E, 0 ≤ E → E ≤ 60 → some b1 = some (decide (legalS ⟨E, 1, S, true, t⟩))) (g2 : ∀ E, 0 ≤ E → E ≤ 60 → some b2 = some (decide (legalS ⟨E, 2, S, true, t⟩))) (g3 : ∀ E, 0 ≤ E → E ≤ 60 → some b3 = some (decide (legalS ⟨E, 3, S, true, t⟩))) (ha : 0 ≤ a ∧ a ≤ 255) :
    l0 100 100 1 3 5 7 a S t 1 = some .x0 := by
  have he : 0 ≤ Int.tmod (IntKind.wrap .i64 a) 60 ∧ Int.tmod (IntKind.wrap .i64 a) 60 ≤ 60 := by
    rw [wrap_id (by omega) (by omega), Int.tmod_eq_emod_of_nonneg ha.1]; omega
  have leg : ∀ n, Ftrain_Legal 100 (Int.tmod (IntKind.wrap .i64 a) 60) n S true t = some (decide (legalS ⟨Int.tmod (IntKind.wrap .i64 a) 60, n, S, true, t⟩)) := fun n => legalP_val 100 ⟨Int.tmod (IntKind.wrap .i64 a) 60, n, S, true, t⟩
  have step : ∀ (m : Nat) (n : Int) (b : Bool), n ≤ 3 → l1 100 100 1 3 5 7 a S t n false 0 = some (1, 3, 5, 7, a, S, t, n, b) → (∀ E, 0 ≤ E → E ≤ 60 → some b = some (decide (legalS ⟨E, n, S, true, t⟩))) → l0 100 (m + 1) 1 3 5 7 a S t n = l0 100 m 1 3 5 7 a S t (IntKind.wrap .i64 (n + 1)) := by
    intro m n b hn h g
    show l0_b 100 (l0 100 m) _ _ _ _ _ _ _ _ = _
    unfold l0_b
    rw [if_pos hn, h]
    show c2 100 (l0 100 m) 1 3 5 7 a S t n b = _
    unfold c2
    rw [leg, ← g _ he.1 he.2, Option.bind_some, if_pos rfl]
  rw [step 99 1 b1 (by decide) h1 g1, show IntKind.wrap .i64 (1 + 1) = 2 by rfl, step 98 2 b2 (by decide) h2 g2, show IntKind.wrap .i64 (2 + 1) = 3 by rfl, step 97 3 b3 (by decide) h3 g3, show IntKind.wrap .i64 (3 + 1) = 4 by rfl]
  show l0_b 100 (l0 100 96) _ _ _ _ _ _ _ _ = _
  unfold l0_b
  rw [if_neg (by decide)]

theorem legT {E n S t : Int} (h : legO E n S t) : some true = some (decide (legalS ⟨E, n, S, true, t⟩)) := leafT (legalS_odd E n S t) h
theorem legF {E n S t : Int} (h : ¬ legO E n S t) : some false = some (decide (legalS ⟨E, n, S, true, t⟩)) := leafF (legalS_odd E n S t) h

/-- The plain law. -/
theorem lawLegalForms (a : Int) (s : Bool) (y : Int) (ha : okI .u8 a) (hy : okI .u8 y) : Fquadformlaw27_TrainLegalForms 100 a s y = some true := by
  unfold Fquadformlaw27_TrainLegalForms Fquadformlaw27_TrainLegalForms.b
  have e1 : IntKind.min .u8 = 0 := rfl
  have e2 : IntKind.max .u8 = 255 := rfl
  have h1 := ha.1; have h2 := ha.2; have h3 := hy.1; have h4 := hy.2
  have hA : 0 ≤ a ∧ a ≤ 255 := by omega
  have ht : Int.tmod (IntKind.wrap .i64 y) 8 = y % 8 := by rw [wrap_id (by omega) (by omega), Int.tmod_eq_emod_of_nonneg (by omega)]
  have key : ∀ S, (S = 1 ∨ S = -1) → Fquadformlaw27_TrainLegalForms.c0 100 1 3 5 7 a y S = some true := by
    intro S hS
    unfold Fquadformlaw27_TrainLegalForms.c0
    rw [ht]
    have hr : y % 8 = 0 ∨ y % 8 = 1 ∨ y % 8 = 2 ∨ y % 8 = 3 ∨ y % 8 = 4 ∨ y % 8 = 5 ∨ y % 8 = 6 ∨ y % 8 = 7 := by omega
    have fin : Fquadformlaw27_TrainLegalForms.l0 100 100 1 3 5 7 a S (y % 8) 1 = some .x0 → ((Fquadformlaw27_TrainLegalForms.l0 100 100 1 3 5 7 a S (y % 8) 1).bind fun o => match o with | .ret r => some r | .x0 => Fquadformlaw27_TrainLegalForms.c1 100) = some true := fun h => by rw [h]; rfl
    refine fin ?_
    rcases hS with rfl | rfl <;> rcases hr with h | h | h | h | h | h | h | h <;> rw [h]
    · exact forms_at a (1) 0 false true false (by kernel_rfl) (by kernel_rfl) (by kernel_rfl) (fun E p q => legF (by unfold legO; omega)) (fun E p q => legT (by unfold legO; omega)) (fun E p q => legF (by unfold legO; omega)) hA
    · exact forms_at a (1) 1 true false true (by kernel_rfl) (by kernel_rfl) (by kernel_rfl) (fun E p q => legT (by unfold legO; omega)) (fun E p q => legF (by unfold legO; omega)) (fun E p q => legT (by unfold legO; omega)) hA
    · exact forms_at a (1) 2 false true false (by kernel_rfl) (by kernel_rfl) (by kernel_rfl) (fun E p q => legF (by unfold legO; omega)) (fun E p q => legT (by unfold legO; omega)) (fun E p q => legF (by unfold legO; omega)) hA
    · exact forms_at a (1) 3 false false true (by kernel_rfl) (by kernel_rfl) (by kernel_rfl) (fun E p q => legF (by unfold legO; omega)) (fun E p q => legF (by unfold legO; omega)) (fun E p q => legT (by unfold legO; omega)) hA
    · exact forms_at a (1) 4 false false false (by kernel_rfl) (by kernel_rfl) (by kernel_rfl) (fun E p q => legF (by unfold legO; omega)) (fun E p q => legF (by unfold legO; omega)) (fun E p q => legF (by unfold legO; omega)) hA
    · exact forms_at a (1) 5 false false true (by kernel_rfl) (by kernel_rfl) (by kernel_rfl) (fun E p q => legF (by unfold legO; omega)) (fun E p q => legF (by unfold legO; omega)) (fun E p q => legT (by unfold legO; omega)) hA
    · exact forms_at a (1) 6 false true false (by kernel_rfl) (by kernel_rfl) (by kernel_rfl) (fun E p q => legF (by unfold legO; omega)) (fun E p q => legT (by unfold legO; omega)) (fun E p q => legF (by unfold legO; omega)) hA
    · exact forms_at a (1) 7 true false true (by kernel_rfl) (by kernel_rfl) (by kernel_rfl) (fun E p q => legT (by unfold legO; omega)) (fun E p q => legF (by unfold legO; omega)) (fun E p q => legT (by unfold legO; omega)) hA
    · exact forms_at a (-1) 0 false false false (by kernel_rfl) (by kernel_rfl) (by kernel_rfl) (fun E p q => legF (by unfold legO; omega)) (fun E p q => legF (by unfold legO; omega)) (fun E p q => legF (by unfold legO; omega)) hA
    · exact forms_at a (-1) 1 false false true (by kernel_rfl) (by kernel_rfl) (by kernel_rfl) (fun E p q => legF (by unfold legO; omega)) (fun E p q => legF (by unfold legO; omega)) (fun E p q => legT (by unfold legO; omega)) hA
    · exact forms_at a (-1) 2 false true false (by kernel_rfl) (by kernel_rfl) (by kernel_rfl) (fun E p q => legF (by unfold legO; omega)) (fun E p q => legT (by unfold legO; omega)) (fun E p q => legF (by unfold legO; omega)) hA
    · exact forms_at a (-1) 3 true false true (by kernel_rfl) (by kernel_rfl) (by kernel_rfl) (fun E p q => legT (by unfold legO; omega)) (fun E p q => legF (by unfold legO; omega)) (fun E p q => legT (by unfold legO; omega)) hA
    · exact forms_at a (-1) 4 false true false (by kernel_rfl) (by kernel_rfl) (by kernel_rfl) (fun E p q => legF (by unfold legO; omega)) (fun E p q => legT (by unfold legO; omega)) (fun E p q => legF (by unfold legO; omega)) hA
    · exact forms_at a (-1) 5 true false true (by kernel_rfl) (by kernel_rfl) (by kernel_rfl) (fun E p q => legT (by unfold legO; omega)) (fun E p q => legF (by unfold legO; omega)) (fun E p q => legT (by unfold legO; omega)) hA
    · exact forms_at a (-1) 6 false true false (by kernel_rfl) (by kernel_rfl) (by kernel_rfl) (fun E p q => legF (by unfold legO; omega)) (fun E p q => legT (by unfold legO; omega)) (fun E p q => legF (by unfold legO; omega)) hA
    · exact forms_at a (-1) 7 false false true (by kernel_rfl) (by kernel_rfl) (by kernel_rfl) (fun E p q => legF (by unfold legO; omega)) (fun E p q => legF (by unfold legO; omega)) (fun E p q => legT (by unfold legO; omega)) hA
  cases s with
  | true => rw [if_pos rfl]; exact key 1 (.inl rfl)
  | false => rw [if_neg (by decide)]; exact key (-1) (.inr rfl)

end Go.Cn
