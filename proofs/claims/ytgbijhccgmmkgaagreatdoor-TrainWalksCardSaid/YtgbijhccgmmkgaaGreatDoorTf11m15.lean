import Derived.Test.YtgbijhccgmmkgaaGreatDoorTy11
import Derived.Test.YtgbijhccgmmkgaaGreatDoorProg
set_option linter.unusedVariables false
set_option maxRecDepth 100000
set_option maxHeartbeats 0
noncomputable section
namespace Go.Cn
open Go.Proofs
/-! ### quadform/train.copied -/
inductive F59.R where
  | s0 (v0 : Int)
  | s1 (v0 : Int) (v1 : List Constituent)
  deriving Inhabited
def F59.Qr (r : F59.R) (Q : CV → CHeap → Prop) : Prop := match r with
  | .s0 v0 => Q (CV.agg [CV.int .i64 v0, CV.slice 5 1 0 0 (some 0)]) [(0, [CV.int .i64 v0, CV.slice 5 1 0 0 (some 0)]), (1, [])]
  | .s1 v0 v1 => Q (CV.agg [CV.int .i64 v0, CV.slice 5 1 0 (v1).length none]) [(0, [CV.int .i64 v0, CV.slice 5 1 0 (v1).length none]), (1, (List.flatMap zC v1))]
def F59.c0_t : List Item := List.drop 0 (dsc 10000 [] [.code (bodyOf Tryz.f45)])
def F59.c1_t : List Item := List.drop 0 (dsc 10000 [] [.code (bodyOf Tryz.f45)])
def F59.c0 (k : Nat) (v0 : Int) : Option F59.R := (some (.s0 v0))
theorem F59.c0_eq (v0 : Int) (R : CV → CHeap → Nat → Prop) (L : List Item → CS → Prop) : hw Tryz.prog noCall Tryz.f45 0 4 10000 F59.c0_t .nil ⟨[(2, CV.ptr 0 0)], [(0, [CV.int .i64 v0, CV.slice 5 1 0 0 (some 0)]), (1, [])], 2⟩ R L = R (CV.agg [CV.int .i64 v0, CV.slice 5 1 0 0 (some 0)]) [(0, [CV.int .i64 v0, CV.slice 5 1 0 0 (some 0)]), (1, [])] 2 := by kernel_rfl
theorem F59.c0_ok (k : Nat) (v0 : Int) (o : F59.R) (h : F59.c0 k  v0 = some o) (Q : CV → CHeap → Prop) (hp : F59.Qr o Q) : Goes Tryz.prog 45 Tryz.f45.ntmps 0 4 F59.c0_t ⟨[(2, CV.ptr 0 0)], [(0, [CV.int .i64 v0, CV.slice 5 1 0 0 (some 0)]), (1, [])], 2⟩ Q := by
  unfold F59.c0 at h
  refine goes_hw noCall_sound Tryz.func45 10000 _ (Nat.zero_le _) (Eq.mpr (F59.c0_eq v0 _ _) ?_)
  exact ⟨lR rfl, (by cases h; exact hp)⟩
def F59.c1 (k : Nat) (v0 : Int) (v1 : List Constituent) : Option F59.R := (some (.s1 v0 v1))
theorem F59.c1_eq (v0 : Int) (v1 : List Constituent) (R : CV → CHeap → Nat → Prop) (L : List Item → CS → Prop) : hw Tryz.prog noCall Tryz.f45 0 4 10000 F59.c1_t .nil ⟨[(2, CV.ptr 0 0)], [(0, [CV.int .i64 v0, CV.slice 5 1 0 (v1).length none]), (1, (List.flatMap zC v1))], 2⟩ R L = R (CV.agg [CV.int .i64 v0, CV.slice 5 1 0 (v1).length none]) [(0, [CV.int .i64 v0, CV.slice 5 1 0 (v1).length none]), (1, (List.flatMap zC v1))] 2 := by kernel_rfl
theorem F59.c1_ok (k : Nat) (v0 : Int) (v1 : List Constituent) (o : F59.R) (h : F59.c1 k  v0 v1 = some o) (Q : CV → CHeap → Prop) (hp : F59.Qr o Q) : Goes Tryz.prog 45 Tryz.f45.ntmps 0 4 F59.c1_t ⟨[(2, CV.ptr 0 0)], [(0, [CV.int .i64 v0, CV.slice 5 1 0 (v1).length none]), (1, (List.flatMap zC v1))], 2⟩ Q := by
  unfold F59.c1 at h
  refine goes_hw noCall_sound Tryz.func45 10000 _ (Nat.zero_le _) (Eq.mpr (F59.c1_eq v0 v1 _ _) ?_)
  exact ⟨lR rfl, (by cases h; exact hp)⟩
def F59.b (k : Nat) (p0Pr : Int) (p0L : List Constituent) : Option F59.R := (if (p0L).length = 0 then (F59.c0 k  p0Pr) else (if (p0L).length < 1073741824 then (F59.c1 k  p0Pr p0L) else none))
theorem F59.b_eq0 (p0Pr : Int) (p0L : List Constituent) (R : CV → CHeap → Nat → Prop) (L : List Item → CS → Prop) : hw Tryz.prog noCall Tryz.f45 0 4 10000 [.code (bodyOf Tryz.f45)] (.run 5 (.new false (CV.slice 5 2 0 0 (some 0)) [] 3 (.run 4 (.cut [2] [(1, 0), (2, 1)] [] 2 (.stp 0))))) ⟨argTm [CV.agg [CV.int .i64 p0Pr, CV.ro 5 (List.map zC p0L) none]] 0 [], [], 0⟩ R L = (cappend Tryz.prog #[30, 30] (CV.slice 5 2 0 0 (some 0)) (CV.ro 5 (List.map zC p0L) none) [(2, []), (1, [CV.int .i64 (0 : Int), CV.ro 1 [] (some 0)]), (0, [CV.int .i64 p0Pr, CV.ro 5 (List.map zC p0L) none])] 3 0 = some (CV.slice 5 2 0 0 (some 0), ([] ++ [(2, []), (1, [CV.int .i64 (0 : Int), CV.ro 1 [] (some 0)]), (0, [CV.int .i64 p0Pr, CV.ro 5 (List.map zC p0L) none])]), 3) ∧ L F59.c0_t ⟨[(2, CV.ptr 0 0)], [(0, [CV.int .i64 p0Pr, CV.slice 5 1 0 0 (some 0)]), (1, [])], 2⟩) := by kernel_rfl
theorem F59.b_eq1 (p0Pr : Int) (p0L : List Constituent) (R : CV → CHeap → Nat → Prop) (L : List Item → CS → Prop) : hw Tryz.prog noCall Tryz.f45 0 4 10000 [.code (bodyOf Tryz.f45)] (.run 5 (.new false (CV.slice 5 3 0 (p0L).length none) [(3, (List.flatMap zC p0L))] 4 (.run 4 (.cut [2] [(1, 0), (3, 1)] [3] 2 (.stp 0))))) ⟨argTm [CV.agg [CV.int .i64 p0Pr, CV.ro 5 (List.map zC p0L) none]] 0 [], [], 0⟩ R L = (cappend Tryz.prog #[30, 30] (CV.slice 5 2 0 0 (some 0)) (CV.ro 5 (List.map zC p0L) none) [(2, []), (1, [CV.int .i64 (0 : Int), CV.ro 1 [] (some 0)]), (0, [CV.int .i64 p0Pr, CV.ro 5 (List.map zC p0L) none])] 3 0 = some (CV.slice 5 3 0 (p0L).length none, ([(3, (List.flatMap zC p0L))] ++ [(2, []), (1, [CV.int .i64 (0 : Int), CV.ro 1 [] (some 0)]), (0, [CV.int .i64 p0Pr, CV.ro 5 (List.map zC p0L) none])]), 4) ∧ (Still (List.flatMap zC p0L) ∧ L F59.c1_t ⟨[(2, CV.ptr 0 0)], [(0, [CV.int .i64 p0Pr, CV.slice 5 1 0 (p0L).length none]), (1, (List.flatMap zC p0L))], 2⟩)) := by kernel_rfl
theorem F59.b_ok (k : Nat) (p0Pr : Int) (p0L : List Constituent) (o : F59.R) (h : F59.b k  p0Pr p0L = some o) (Q : CV → CHeap → Prop) (hp : F59.Qr o Q) : Goes Tryz.prog 45 Tryz.f45.ntmps 0 4 [.code (bodyOf Tryz.f45)] ⟨argTm [CV.agg [CV.int .i64 p0Pr, CV.ro 5 (List.map zC p0L) none]] 0 [], [], 0⟩ Q := by
  unfold F59.b at h
  by_cases g1 : (p0L).length = 0
  · skip
    refine goes_hw noCall_sound Tryz.func45 10000 _ (Nat.zero_le _) (Eq.mpr (F59.b_eq0 p0Pr p0L _ _) ?_)
    exact (casK g1 h (fun h => ⟨(append_live_zero (enc := zC) rfl Tryz.underlying30 sz23 rfl rfl rfl nz30 g1), ⟨lR rfl, (F59.c0_ok k   p0Pr _ h Q hp)⟩⟩))
  · skip
    refine goes_hw noCall_sound Tryz.func45 10000 _ (Nat.zero_le _) (Eq.mpr (F59.b_eq1 p0Pr p0L _ _) ?_)
    exact (casN g1 h (fun h => (grdK h (fun g2 h => ⟨(append_lit_all (enc := zC) rfl Tryz.underlying30 sz23 rfl rfl rfl nz30 (by decide) (by decide) g1 g2 rfl), ⟨(still_flat zC_still _), ⟨lR rfl, (F59.c1_ok k   p0Pr p0L _ h Q hp)⟩⟩⟩))))
def F59 (k : Nat) (p0Pr : Int) (p0L : List Constituent) : Option F59.R := F59.b k p0Pr p0L
def F59.LCs (p0Pr : Int) (p0L : List Constituent) (r : F59.R) : Prop := match r with
  | .s0 v0 => LC Tryz.prog 45 [CV.agg [CV.int .i64 p0Pr, CV.ro 5 (List.map zC p0L) none]] (CV.agg [CV.int .i64 v0, CV.slice 5 1 0 0 (some 0)]) [(0, [CV.int .i64 v0, CV.slice 5 1 0 0 (some 0)]), (1, [])] 4
  | .s1 v0 v1 => LC Tryz.prog 45 [CV.agg [CV.int .i64 p0Pr, CV.ro 5 (List.map zC p0L) none]] (CV.agg [CV.int .i64 v0, CV.slice 5 1 0 (v1).length none]) [(0, [CV.int .i64 v0, CV.slice 5 1 0 (v1).length none]), (1, (List.flatMap zC v1))] 4
theorem F60 (k : Nat) (p0Pr : Int) (p0L : List Constituent) (r : F59.R) (h : F59 k p0Pr p0L = some r) : F59.LCs p0Pr p0L r := by
  cases r with
  | s0 v0 => exact lc_of Tryz.func45 (c := bodyOf Tryz.f45) (top := 4) rfl rfl (F59.b_ok k p0Pr p0L _ h _ ⟨rfl, rfl⟩)
  | s1 v0 v1 => exact lc_of Tryz.func45 (c := bodyOf Tryz.f45) (top := 4) rfl rfl (F59.b_ok k p0Pr p0L _ h _ ⟨rfl, rfl⟩)
end Go.Cn
