import Derived.Test.YtgbijhccgmmkgaaGreatDoorTy11
import Derived.Test.YtgbijhccgmmkgaaGreatDoorProg
set_option linter.unusedVariables false
set_option maxRecDepth 100000
set_option maxHeartbeats 0
noncomputable section
namespace Go.Cn
open Go.Proofs
/-! ### quadform/quadformlaw27.long -/
abbrev F9.R : Type := Bool
def F9.encR (r : F9.R) : CV := CV.bool r
def F9.b (k : Nat) (p0Pr : Int) (p0L : List Constituent) : Option F9.R := (some ((decide (((p0L).length : Int) > (20 : Int)))))
theorem F9.b_eq (p0Pr : Int) (p0L : List Constituent) (R : CV → CHeap → Nat → Prop) (L : List Item → CS → Prop) : hw Tryz.prog noCall Tryz.f15 0 1 10000 [.code (bodyOf Tryz.f15)] (.run 4 (.val (CV.int .i64 ((p0L).length : Int)) (.run 2 .nil))) ⟨argTm [CV.agg [CV.int .i64 p0Pr, CV.ro 5 (List.map zC p0L) none]] 0 [], [], 0⟩ R L = (clen Tryz.prog #[30] (CV.ro 5 (List.map zC p0L) none) = some (CV.int .i64 ((p0L).length : Int)) ∧ R (CV.bool (decide (((p0L).length : Int) > (20 : Int)))) [(0, [CV.int .i64 p0Pr, CV.ro 5 (List.map zC p0L) none])] 1) := by kernel_rfl
theorem F9.b_ok (k : Nat) (p0Pr : Int) (p0L : List Constituent) (o : F9.R) (h : F9.b k  p0Pr p0L = some o) (Q : CV → CHeap → Prop) (hp : ∀ y K, Frz K y (F9.encR o) → Q y K) : Goes Tryz.prog 15 Tryz.f15.ntmps 0 1 [.code (bodyOf Tryz.f15)] ⟨argTm [CV.agg [CV.int .i64 p0Pr, CV.ro 5 (List.map zC p0L) none]] 0 [], [], 0⟩ Q := by
  unfold F9.b at h
  refine goes_hw noCall_sound Tryz.func15 10000 _ (Nat.zero_le _) (Eq.mpr (F9.b_eq p0Pr p0L _ _) ?_)
  exact ⟨(len_map rfl Tryz.underlying30), ⟨lR rfl, (by cases h; exact hp _ _ (frz_clean clean_bool))⟩⟩
def F9 (k : Nat) (p0Pr : Int) (p0L : List Constituent) : Option F9.R := F9.b k p0Pr p0L
theorem F10 (k : Nat) (p0Pr : Int) (p0L : List Constituent) (r : F9.R) (h : F9 k p0Pr p0L = some r) : PC Tryz.prog 15 [CV.agg [CV.int .i64 p0Pr, CV.ro 5 (List.map zC p0L) none]] (F9.encR r) :=
  pc_of Tryz.func15 (c := bodyOf Tryz.f15) (top := 1) rfl rfl ⟨(clean_aggL ⟨clean_int, (clean_map zC_clean), trivial⟩), trivial⟩ clean_bool (F9.b_ok k p0Pr p0L r h _ fun y K hf => hf)
end Go.Cn
