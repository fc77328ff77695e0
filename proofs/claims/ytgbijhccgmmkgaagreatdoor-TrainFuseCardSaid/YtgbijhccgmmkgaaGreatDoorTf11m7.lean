import Derived.Test.YtgbijhccgmmkgaaGreatDoorTy11
import Derived.Test.YtgbijhccgmmkgaaGreatDoorProg
set_option linter.unusedVariables false
set_option maxRecDepth 100000
set_option maxHeartbeats 0
noncomputable section
namespace Go.Cn
open Go.Proofs
/-! ### quadform/quadformlaw27.long -/
abbrev Fquadformlaw27_long.R : Type := Bool
noncomputable def Fquadformlaw27_long.encR (r : Fquadformlaw27_long.R) : CV := CV.bool r
noncomputable def Fquadformlaw27_long.b (k : Nat) (p0_Prime : Int) (p0_List : List Constituent) : Option Fquadformlaw27_long.R := (some ((decide (((p0_List).length : Int) > (20 : Int)))))
theorem Fquadformlaw27_long.b_eq (p0_Prime : Int) (p0_List : List Constituent) (R : CV → CHeap → Nat → Prop) (L : List Item → CS → Prop) : hw Tryz.prog noCall Tryz.f15 0 1 10000 [.code (bodyOf Tryz.f15)] (.run 4 (.val (CV.int .i64 ((p0_List).length : Int)) (.run 2 .nil))) ⟨argTm [CV.agg [CV.int .i64 p0_Prime, CV.ro 5 (List.map enc_Constituent p0_List) none]] 0 [], [], 0⟩ R L = (clen Tryz.prog #[30] (CV.ro 5 (List.map enc_Constituent p0_List) none) = some (CV.int .i64 ((p0_List).length : Int)) ∧ R (CV.bool (decide (((p0_List).length : Int) > (20 : Int)))) [(0, [CV.int .i64 p0_Prime, CV.ro 5 (List.map enc_Constituent p0_List) none])] 1) := by kernel_rfl
theorem Fquadformlaw27_long.b_ok (k : Nat) (p0_Prime : Int) (p0_List : List Constituent) (o : Fquadformlaw27_long.R) (h : Fquadformlaw27_long.b k  p0_Prime p0_List = some o) (Q : CV → CHeap → Prop) (hp : ∀ y K, Frz K y (Fquadformlaw27_long.encR o) → Q y K) : Goes Tryz.prog 15 Tryz.f15.ntmps 0 1 [.code (bodyOf Tryz.f15)] ⟨argTm [CV.agg [CV.int .i64 p0_Prime, CV.ro 5 (List.map enc_Constituent p0_List) none]] 0 [], [], 0⟩ Q := by
  unfold Fquadformlaw27_long.b at h
  refine goes_hw noCall_sound Tryz.func15 10000 _ (Nat.zero_le _) (Eq.mpr (Fquadformlaw27_long.b_eq p0_Prime p0_List _ _) ?_)
  exact ⟨(len_map rfl Tryz.underlying30), ⟨Nat.le_of_ble_eq_true rfl, (by cases h; exact hp _ _ (frz_clean clean_bool))⟩⟩
noncomputable def Fquadformlaw27_long (k : Nat) (p0_Prime : Int) (p0_List : List Constituent) : Option Fquadformlaw27_long.R := Fquadformlaw27_long.b k p0_Prime p0_List
theorem Fquadformlaw27_long_ok (k : Nat) (p0_Prime : Int) (p0_List : List Constituent) (r : Fquadformlaw27_long.R) (h : Fquadformlaw27_long k p0_Prime p0_List = some r) : PC Tryz.prog 15 [CV.agg [CV.int .i64 p0_Prime, CV.ro 5 (List.map enc_Constituent p0_List) none]] (Fquadformlaw27_long.encR r) :=
  pc_of Tryz.func15 (c := bodyOf Tryz.f15) (top := 1) rfl rfl ⟨(clean_aggL ⟨clean_int, (clean_map enc_Constituent_clean), trivial⟩), trivial⟩ clean_bool (Fquadformlaw27_long.b_ok k p0_Prime p0_List r h _ fun y K hf => hf)
end Go.Cn
