import Derived.Test.YtgbijhccgmmkgabGreatDoorTf13m9
import Derived.Test.YtgbijhccgmmkgabGreatDoorRows
import Derived.LaidMore
import Derived.Stop.Joined
import Derived.Test.YtgbijhccgmmkgabGreatDoorCards
import Derived.Test.YtgbijhccgmmkgabGreatDoorTie
import Derived.SevenTiedAt
import Derived.Test.YtgbijhccgmmkgabGreatDoorRdr8b
import Derived.WalkKit
import Derived.ProofKit
import Derived.OpenShut
import Derived.ShutString
import Derived.ChangeOld
import Derived.Below
import Derived.SizedLaws
set_option linter.unusedVariables false
noncomputable section
namespace Go.Proofs.YtgbijhccgmmkgabGreatDoor.trainRefines
open Go.Cn Go.ChangeShapes Go.WideShapes Go.ChangeAt Go.RowKit
theorem own : ownKnob Tryz.prog.godebug = none := by kernel_rfl
theorem laidOut : laidOutB Tryz.prog = true := by kernel_rfl
set_option maxRecDepth 100000 in
theorem lifted (hpc : ∀ xs, DatAll Tryz.prog 8 [27] xs → PC Tryz.prog 7 xs (.bool true)) (os : Os) (started : os.Started) (H : Type) (enc : TypeId × Value → H) :
    ReturnsInHanded {} Tryz.checked os 7 .any (fun w args => (Rows.trainRefinesSpec.pre enc Tryz.prog Tryz.f7 Rows.trainRefinesRow.domain false w args ∧ laidMetH Tryz.prog laid3 w) ∧ sizedMet enc Tryz.prog Tryz.f7 (OpenSpec.ofChange Rows.trainRefinesSpec) false w args) (Rows.trainRefinesSpec.post enc Tryz.prog Tryz.f7 false true false false) := by
  refine returnsInHanded_of_change_and (C := Tryz.checked) (X := fun w _ => laidMetH Tryz.prog laid3 w) (fun _ _ _ hh h => h.of_heap hh) own started (by kernel_rfl) Tryz.func7
    (ChangeSpec.witness_shaped (enc := enc) (C := Tryz.checked) (os := os) (X := fun w _ => laidMetH Tryz.prog laid3 w) false (World.doorLaid Tryz.prog 400 os) #[.agg #[.int .u8 0, .slice none 0 0]] 8 rfl (World.shaped_of_RefB (by kernel_rfl) (by kernel_rfl)) (by kernel_rfl) (by kernel_rfl) (by kernel_rfl) (door_met os _)) ?_
  intro W base args ds gs before hval0 hW hcnd hsz0 _ _
  have hval : ∀ (j : Nat) t v, Tryz.f7.params[j]? = some t → args[j]? = some v → Value.okWide Tryz.prog W .any base t v := hval0
  have hW' := hW
  obtain ⟨p, q, hA0, hV, rfl, hfz, hnd⟩ := hW
  have hA : DataW.TrodAll enc Tryz.prog W 0 (fun _ => true) true Tryz.f7.params.toList args.toList ds p := hA0
  rw [Tryz.params7] at hA hval
  obtain ⟨xs, hD, hlen, hvr⟩ := args_dat (m := 8) (b0 := base) hA (fun j t v ht hv => hval j t v (by simpa using ht) (by simpa using hv)) (by kernel_rfl)
  obtain ⟨rfl, rfl⟩ := trodVars_none hV
  refine (calls_of_pc (hpc xs hD) hlen hvr).mono fun e W' ⟨he, bel⟩ => ?_
  subst he
  obtain ⟨qs, hback⟩ := args_back laidOut bel hA (by kernel_rfl)
  clear hA0 hval0 hval hvr hD hlen
  obtain ⟨v0, vs0, d0, ds0, p0, q0, hargs, rfl, rfl, h0, r0⟩ := trodAll_cons hA
  obtain ⟨rfl, rfl, rfl⟩ := trodAll_nil r0
  exact ⟨_, rfl, _, _, _, [], _, [], hW', trodAll_mk1 (shut_bool Tryz.underlying4 _), hback, rfl, bel.frame _, fun h => by cases h⟩
theorem over (hpc : ∀ xs, DatAll Tryz.prog 8 [27] xs → PC Tryz.prog 7 xs (.bool true)) : Rows.trainRefinesRow.holds Tryz.pinned (OpenSpec.ofChange Rows.trainRefinesSpec) :=
  OpenClaim.holds_of_wide 7 Tryz.f7 rfl rfl rfl rfl rfl rfl rfl ⟨rfl, rfl, rfl, rfl, rfl⟩ rfl rfl rfl rfl rfl (by kernel_rfl) Tryz.func7 (by kernel_rfl)
    (of_decide_eq_true (by kernel_rfl)) (by unfold Func.isWrapper; first | (rw [if_pos (by decide +kernel)]; kernel_rfl) | (rw [if_neg (by decide +kernel)]; exact ⟨rfl, rfl⟩))
    (fun os started H enc _ => lifted hpc os started H enc)
end Go.Proofs.YtgbijhccgmmkgabGreatDoor.trainRefines
