import Derived.Test.YtgbijhccgmmkgaaGreatDoorTy11
import Derived.Test.YtgbijhccgmmkgaaGreatDoorProg
set_option linter.unusedVariables false
set_option maxRecDepth 100000
set_option maxHeartbeats 0
noncomputable section
namespace Go.Cn
open Go.Proofs
/-! ### quadform/train.scaled -/
abbrev F65.R : Type := Bool
def F65.encR (r : F65.R) : CV := CV.bool r
def F65.b (k : Nat) (p0E : Int) (p0D : Int) (p0S : Int) (p0O : Bool) (p0Od : Int) : Option F65.R := (if p0E ≥ (0 : Int) then (if p0E ≤ (60 : Int) then (if p0D ≥ (1 : Int) then (if p0D ≤ (8 : Int) then (if p0S = (1 : Int) then (some (true)) else (some ((p0S == (-1 : Int))))) else (some (false))) else (some (false))) else (some (false))) else (some (false)))
theorem F65.b_eq (p0E : Int) (p0D : Int) (p0S : Int) (p0O : Bool) (p0Od : Int) (R : CV → CHeap → Nat → Prop) (L : List Item → CS → Prop) : hw Tryz.prog noCall Tryz.f35 0 1 10000 [.code (bodyOf Tryz.f35)] (.run 6 (.br [5, 6] (.run 7 (.br [9, 10, 11] (.run 7 (.br [14, 15, 16] (.run 7 (.br [19, 20, 21] (.run 7 (.br [24, 25] (.run 6 .nil) (.run 9 .nil))) (.run 6 .nil))) (.run 11 .nil))) (.run 16 .nil))) (.run 21 .nil))) ⟨argTm [CV.agg [CV.int .i64 p0E, CV.int .i64 p0D, CV.int .i64 p0S, CV.bool p0O, CV.int .i64 p0Od]] 0 [], [], 0⟩ R L = ((decide (p0E ≥ (0 : Int))) = (decide (p0E ≥ (0 : Int))) ∧ (decide (p0E ≥ (0 : Int))) = (decide (p0E ≥ (0 : Int))) ∧ BIf (decide (p0E ≥ (0 : Int))) (fun _ => ((decide (p0E ≤ (60 : Int))) = (decide (p0E ≤ (60 : Int))) ∧ (decide (p0E ≤ (60 : Int))) = (decide (p0E ≤ (60 : Int))) ∧ (decide (p0E ≤ (60 : Int))) = (decide (p0E ≤ (60 : Int))) ∧ BIf (decide (p0E ≤ (60 : Int))) (fun _ => ((decide (p0D ≥ (1 : Int))) = (decide (p0D ≥ (1 : Int))) ∧ (decide (p0D ≥ (1 : Int))) = (decide (p0D ≥ (1 : Int))) ∧ (decide (p0D ≥ (1 : Int))) = (decide (p0D ≥ (1 : Int))) ∧ BIf (decide (p0D ≥ (1 : Int))) (fun _ => ((decide (p0D ≤ (8 : Int))) = (decide (p0D ≤ (8 : Int))) ∧ (decide (p0D ≤ (8 : Int))) = (decide (p0D ≤ (8 : Int))) ∧ (decide (p0D ≤ (8 : Int))) = (decide (p0D ≤ (8 : Int))) ∧ BIf (decide (p0D ≤ (8 : Int))) (fun _ => ((p0S == (1 : Int)) = (p0S == (1 : Int)) ∧ (p0S == (1 : Int)) = (p0S == (1 : Int)) ∧ BIf (p0S == (1 : Int)) (fun _ => R (CV.bool true) [(0, [CV.int .i64 p0E, CV.int .i64 p0D, CV.int .i64 p0S, CV.bool p0O, CV.int .i64 p0Od])] 1) (fun _ => R (CV.bool (p0S == (-1 : Int))) [(0, [CV.int .i64 p0E, CV.int .i64 p0D, CV.int .i64 p0S, CV.bool p0O, CV.int .i64 p0Od])] 1))) (fun _ => R (CV.bool false) [(0, [CV.int .i64 p0E, CV.int .i64 p0D, CV.int .i64 p0S, CV.bool p0O, CV.int .i64 p0Od])] 1))) (fun _ => R (CV.bool false) [(0, [CV.int .i64 p0E, CV.int .i64 p0D, CV.int .i64 p0S, CV.bool p0O, CV.int .i64 p0Od])] 1))) (fun _ => R (CV.bool false) [(0, [CV.int .i64 p0E, CV.int .i64 p0D, CV.int .i64 p0S, CV.bool p0O, CV.int .i64 p0Od])] 1))) (fun _ => R (CV.bool false) [(0, [CV.int .i64 p0E, CV.int .i64 p0D, CV.int .i64 p0S, CV.bool p0O, CV.int .i64 p0Od])] 1)) := by kernel_rfl
theorem F65.b_ok (k : Nat) (p0E : Int) (p0D : Int) (p0S : Int) (p0O : Bool) (p0Od : Int) (o : F65.R) (h : F65.b k  p0E p0D p0S p0O p0Od = some o) (Q : CV → CHeap → Prop) (hp : ∀ y K, Frz K y (F65.encR o) → Q y K) : Goes Tryz.prog 35 Tryz.f35.ntmps 0 1 [.code (bodyOf Tryz.f35)] ⟨argTm [CV.agg [CV.int .i64 p0E, CV.int .i64 p0D, CV.int .i64 p0S, CV.bool p0O, CV.int .i64 p0Od]] 0 [], [], 0⟩ Q := by
  unfold F65.b at h
  refine goes_hw noCall_sound Tryz.func35 10000 _ (Nat.zero_le _) (Eq.mpr (F65.b_eq p0E p0D p0S p0O p0Od _ _) ?_)
  exact ⟨rfl, ⟨rfl, (bifD h (fun _ h => ⟨rfl, ⟨rfl, ⟨rfl, (bifD h (fun _ h => ⟨rfl, ⟨rfl, ⟨rfl, (bifD h (fun _ h => ⟨rfl, ⟨rfl, ⟨rfl, (bifD h (fun _ h => ⟨rfl, ⟨rfl, (bifE h (fun _ h => ⟨lR rfl, (by cases h; exact hp _ _ (frz_clean clean_bool))⟩) (fun _ h => ⟨lR rfl, (by cases h; exact hp _ _ (frz_clean clean_bool))⟩))⟩⟩) (fun _ h => ⟨lR rfl, (by cases h; exact hp _ _ (frz_clean clean_bool))⟩))⟩⟩⟩) (fun _ h => ⟨lR rfl, (by cases h; exact hp _ _ (frz_clean clean_bool))⟩))⟩⟩⟩) (fun _ h => ⟨lR rfl, (by cases h; exact hp _ _ (frz_clean clean_bool))⟩))⟩⟩⟩) (fun _ h => ⟨lR rfl, (by cases h; exact hp _ _ (frz_clean clean_bool))⟩))⟩⟩
def F65 (k : Nat) (p0E : Int) (p0D : Int) (p0S : Int) (p0O : Bool) (p0Od : Int) : Option F65.R := F65.b k p0E p0D p0S p0O p0Od
theorem F66 (k : Nat) (p0E : Int) (p0D : Int) (p0S : Int) (p0O : Bool) (p0Od : Int) (r : F65.R) (h : F65 k p0E p0D p0S p0O p0Od = some r) : PC Tryz.prog 35 [CV.agg [CV.int .i64 p0E, CV.int .i64 p0D, CV.int .i64 p0S, CV.bool p0O, CV.int .i64 p0Od]] (F65.encR r) :=
  pc_of Tryz.func35 (c := bodyOf Tryz.f35) (top := 1) rfl rfl ⟨(clean_aggL ⟨clean_int, clean_int, clean_int, clean_bool, clean_int, trivial⟩), trivial⟩ clean_bool (F65.b_ok k p0E p0D p0S p0O p0Od r h _ fun y K hf => hf)
/-! ### quadform/quadformlaw27.awake, run -/
theorem F6 : saysTrue (fevalCall Tryz.prog 1000000 60 14 [] [] 0 0) = true := by kernel_rfl
theorem F4 : NoNum Tryz.prog := noNum_of (by kernel_rfl)
def F3 (k : Nat) : Option Bool := some true
theorem F5 (k : Nat) (r : Bool) (h : F3 k = some r) : PC Tryz.prog 14 [] (.bool r) := by
  cases h
  exact pc_true F4 1000000 60 F6
end Go.Cn
