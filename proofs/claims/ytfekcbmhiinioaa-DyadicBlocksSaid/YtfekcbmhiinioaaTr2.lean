import Derived.Test.YtfekcbmhiinioaaTf2
import Derived.Test.YtfekcbmhiinioaaRows
import Derived.WalkKit
import Derived.ProofKit
import Derived.OpenShut
import Derived.ShutString
import Derived.ChangeOld
import Derived.Below
import Derived.SizedLaws
set_option linter.unusedVariables false
noncomputable section
namespace Go.Proofs.Ytfekcbmhiinioaa.dyadicBlocks
open Go.Cn Go.ChangeShapes Go.WideShapes Go.ChangeAt Go.RowKit
theorem own : ownKnob Try.prog.godebug = none := by kernel_rfl
theorem laidOut : laidOutB Try.prog = true := by kernel_rfl
set_option maxRecDepth 100000 in
theorem lifted (hpc : ∀ xs, DatAll Try.prog 8 [26, 5, 5, 5] xs → PC Try.prog 4 xs (.bool true)) (os : Os) (started : os.Started) (H : Type) (enc : TypeId × Value → H) :
    ReturnsInHanded {} Try.checked os 4 .any (Rows.dyadicBlocksSpec.pre6 enc Try.prog Try.f4 Rows.dyadicBlocksRow.domain false) (Rows.dyadicBlocksSpec.post enc Try.prog Try.f4 false true false false) := by
  refine returnsInHanded_of_change_sized (C := Try.checked) own started (by kernel_rfl) Try.func4
    (ChangeSpec.witness6 (enc := enc) (C := Try.checked) false ⟨#[], #[.slice none 0 0, .int .u8 0, .int .u8 0, .int .u8 0], []⟩ 8 (by kernel_rfl) (by kernel_rfl) (by kernel_rfl) (by kernel_rfl)) ?_
  intro W base args ds gs before hval0 hW hcnd hsz0 _
  have hval : ∀ (j : Nat) t v, Try.f4.params[j]? = some t → args[j]? = some v → Value.okWide Try.prog W .any base t v := hval0
  have hW' := hW
  obtain ⟨p, q, hA0, hV, rfl, hfz, hnd⟩ := hW
  have hA : DataW.TrodAll enc Try.prog W 0 (fun _ => true) true Try.f4.params.toList args.toList ds p := hA0
  rw [Try.params4] at hA hval
  obtain ⟨xs, hD, hlen, hvr⟩ := args_dat (m := 8) (b0 := base) hA (fun j t v ht hv => hval j t v (by simpa using ht) (by simpa using hv)) (by kernel_rfl)
  obtain ⟨rfl, rfl⟩ := trodVars_none hV
  refine (calls_of_pc (hpc xs hD) hlen hvr).mono fun e W' ⟨he, bel⟩ => ?_
  subst he
  obtain ⟨qs, hback⟩ := args_back laidOut bel hA (by kernel_rfl)
  clear hA0 hval0 hval hvr hD hlen
  obtain ⟨v0, vs0, d0, ds0, p0, q0, hargs, rfl, rfl, h0, r0⟩ := trodAll_cons hA
  obtain ⟨v1, vs1, d1, ds1, p1, q1, rfl, rfl, rfl, h1, r1⟩ := trodAll_cons r0
  obtain ⟨v2, vs2, d2, ds2, p2, q2, rfl, rfl, rfl, h2, r2⟩ := trodAll_cons r1
  obtain ⟨v3, vs3, d3, ds3, p3, q3, rfl, rfl, rfl, h3, r3⟩ := trodAll_cons r2
  obtain ⟨rfl, rfl, rfl⟩ := trodAll_nil r3
  exact ⟨_, rfl, _, _, _, [], _, [], hW', trodAll_mk1 (shut_bool Try.underlying4 _), hback, rfl, bel.frame _, fun h => by cases h⟩
theorem over (hpc : ∀ xs, DatAll Try.prog 8 [26, 5, 5, 5] xs → PC Try.prog 4 xs (.bool true)) : Rows.dyadicBlocksRow.holds Try.pinned (OpenSpec.ofChange Rows.dyadicBlocksSpec) :=
  OpenClaim.holds_of_wide 4 Try.f4 rfl rfl rfl rfl rfl rfl rfl ⟨rfl, rfl, rfl, rfl, rfl⟩ rfl rfl rfl rfl rfl (by kernel_rfl) Try.func4 (by kernel_rfl)
    (of_decide_eq_true (by kernel_rfl)) (by unfold Func.isWrapper; first | (rw [if_pos (by decide +kernel)]; kernel_rfl) | (rw [if_neg (by decide +kernel)]; exact ⟨rfl, rfl⟩))
    (fun os started H enc _ => lifted hpc os started H enc)
end Go.Proofs.Ytfekcbmhiinioaa.dyadicBlocks
