import Derived.Test.YtgbijhccgmmkgaaGreatDoorTy11
import Derived.Test.YtgbijhccgmmkgaaGreatDoorProg
set_option linter.unusedVariables false
set_option maxRecDepth 100000
set_option maxHeartbeats 0
noncomputable section
namespace Go.Cn
open Go.Proofs
/-! ### quadform/train.copied -/
inductive Ftrain_copiedL.R where
  | s0 (v0 : Int)
  | s1 (v0 : Int) (v1 : List Constituent)
  deriving Inhabited
noncomputable def Ftrain_copiedL.Qr (r : Ftrain_copiedL.R) (Q : CV → CHeap → Prop) : Prop := match r with
  | .s0 v0 => Q (CV.agg [CV.int .i64 v0, CV.slice 5 1 0 0 (some 0)]) [(0, [CV.int .i64 v0, CV.slice 5 1 0 0 (some 0)]), (1, [])]
  | .s1 v0 v1 => Q (CV.agg [CV.int .i64 v0, CV.slice 5 1 0 (v1).length none]) [(0, [CV.int .i64 v0, CV.slice 5 1 0 (v1).length none]), (1, (List.flatMap enc_Constituent v1))]
noncomputable def Ftrain_copiedL.c0_t : List Item := List.drop 0 (dsc 10000 [] [.code (bodyOf Tryz.f45)])
noncomputable def Ftrain_copiedL.c1_t : List Item := List.drop 0 (dsc 10000 [] [.code (bodyOf Tryz.f45)])
noncomputable def Ftrain_copiedL.c0 (k : Nat) (v0 : Int) : Option Ftrain_copiedL.R := (some (.s0 v0))
theorem Ftrain_copiedL.c0_eq (v0 : Int) (R : CV → CHeap → Nat → Prop) (L : List Item → CS → Prop) : hw Tryz.prog noCall Tryz.f45 0 4 10000 Ftrain_copiedL.c0_t .nil ⟨[(2, CV.ptr 0 0)], [(0, [CV.int .i64 v0, CV.slice 5 1 0 0 (some 0)]), (1, [])], 2⟩ R L = R (CV.agg [CV.int .i64 v0, CV.slice 5 1 0 0 (some 0)]) [(0, [CV.int .i64 v0, CV.slice 5 1 0 0 (some 0)]), (1, [])] 2 := by kernel_rfl
theorem Ftrain_copiedL.c0_ok (k : Nat) (v0 : Int) (o : Ftrain_copiedL.R) (h : Ftrain_copiedL.c0 k  v0 = some o) (Q : CV → CHeap → Prop) (hp : Ftrain_copiedL.Qr o Q) : Goes Tryz.prog 45 Tryz.f45.ntmps 0 4 Ftrain_copiedL.c0_t ⟨[(2, CV.ptr 0 0)], [(0, [CV.int .i64 v0, CV.slice 5 1 0 0 (some 0)]), (1, [])], 2⟩ Q := by
  unfold Ftrain_copiedL.c0 at h
  refine goes_hw noCall_sound Tryz.func45 10000 _ (Nat.zero_le _) (Eq.mpr (Ftrain_copiedL.c0_eq v0 _ _) ?_)
  exact ⟨Nat.le_of_ble_eq_true rfl, (by cases h; exact hp)⟩
noncomputable def Ftrain_copiedL.c1 (k : Nat) (v0 : Int) (v1 : List Constituent) : Option Ftrain_copiedL.R := (some (.s1 v0 v1))
theorem Ftrain_copiedL.c1_eq (v0 : Int) (v1 : List Constituent) (R : CV → CHeap → Nat → Prop) (L : List Item → CS → Prop) : hw Tryz.prog noCall Tryz.f45 0 4 10000 Ftrain_copiedL.c1_t .nil ⟨[(2, CV.ptr 0 0)], [(0, [CV.int .i64 v0, CV.slice 5 1 0 (v1).length none]), (1, (List.flatMap enc_Constituent v1))], 2⟩ R L = R (CV.agg [CV.int .i64 v0, CV.slice 5 1 0 (v1).length none]) [(0, [CV.int .i64 v0, CV.slice 5 1 0 (v1).length none]), (1, (List.flatMap enc_Constituent v1))] 2 := by kernel_rfl
theorem Ftrain_copiedL.c1_ok (k : Nat) (v0 : Int) (v1 : List Constituent) (o : Ftrain_copiedL.R) (h : Ftrain_copiedL.c1 k  v0 v1 = some o) (Q : CV → CHeap → Prop) (hp : Ftrain_copiedL.Qr o Q) : Goes Tryz.prog 45 Tryz.f45.ntmps 0 4 Ftrain_copiedL.c1_t ⟨[(2, CV.ptr 0 0)], [(0, [CV.int .i64 v0, CV.slice 5 1 0 (v1).length none]), (1, (List.flatMap enc_Constituent v1))], 2⟩ Q := by
  unfold Ftrain_copiedL.c1 at h
  refine goes_hw noCall_sound Tryz.func45 10000 _ (Nat.zero_le _) (Eq.mpr (Ftrain_copiedL.c1_eq v0 v1 _ _) ?_)
  exact ⟨Nat.le_of_ble_eq_true rfl, (by cases h; exact hp)⟩
noncomputable def Ftrain_copiedL.b (k : Nat) (p0_Prime : Int) (p0_List : List Constituent) : Option Ftrain_copiedL.R := (if (p0_List).length = 0 then (Ftrain_copiedL.c0 k  p0_Prime) else (if (p0_List).length < 1073741824 then (Ftrain_copiedL.c1 k  p0_Prime p0_List) else none))
theorem Ftrain_copiedL.b_eq0 (p0_Prime : Int) (p0_List : List Constituent) (R : CV → CHeap → Nat → Prop) (L : List Item → CS → Prop) : hw Tryz.prog noCall Tryz.f45 0 4 10000 [.code (bodyOf Tryz.f45)] (.run 5 (.new false (CV.slice 5 2 0 0 (some 0)) [] 3 (.run 4 (.cut [2] [(1, 0), (2, 1)] [] 2 (.stp 0))))) ⟨argTm [CV.agg [CV.int .i64 p0_Prime, CV.ro 5 (List.map enc_Constituent p0_List) none]] 0 [], [], 0⟩ R L = (cappend Tryz.prog #[30, 30] (CV.slice 5 2 0 0 (some 0)) (CV.ro 5 (List.map enc_Constituent p0_List) none) [(2, []), (1, [CV.int .i64 (0 : Int), CV.ro 1 [] (some 0)]), (0, [CV.int .i64 p0_Prime, CV.ro 5 (List.map enc_Constituent p0_List) none])] 3 0 = some (CV.slice 5 2 0 0 (some 0), ([] ++ [(2, []), (1, [CV.int .i64 (0 : Int), CV.ro 1 [] (some 0)]), (0, [CV.int .i64 p0_Prime, CV.ro 5 (List.map enc_Constituent p0_List) none])]), 3) ∧ L Ftrain_copiedL.c0_t ⟨[(2, CV.ptr 0 0)], [(0, [CV.int .i64 p0_Prime, CV.slice 5 1 0 0 (some 0)]), (1, [])], 2⟩) := by kernel_rfl
theorem Ftrain_copiedL.b_eq1 (p0_Prime : Int) (p0_List : List Constituent) (R : CV → CHeap → Nat → Prop) (L : List Item → CS → Prop) : hw Tryz.prog noCall Tryz.f45 0 4 10000 [.code (bodyOf Tryz.f45)] (.run 5 (.new false (CV.slice 5 3 0 (p0_List).length none) [(3, (List.flatMap enc_Constituent p0_List))] 4 (.run 4 (.cut [2] [(1, 0), (3, 1)] [3] 2 (.stp 0))))) ⟨argTm [CV.agg [CV.int .i64 p0_Prime, CV.ro 5 (List.map enc_Constituent p0_List) none]] 0 [], [], 0⟩ R L = (cappend Tryz.prog #[30, 30] (CV.slice 5 2 0 0 (some 0)) (CV.ro 5 (List.map enc_Constituent p0_List) none) [(2, []), (1, [CV.int .i64 (0 : Int), CV.ro 1 [] (some 0)]), (0, [CV.int .i64 p0_Prime, CV.ro 5 (List.map enc_Constituent p0_List) none])] 3 0 = some (CV.slice 5 3 0 (p0_List).length none, ([(3, (List.flatMap enc_Constituent p0_List))] ++ [(2, []), (1, [CV.int .i64 (0 : Int), CV.ro 1 [] (some 0)]), (0, [CV.int .i64 p0_Prime, CV.ro 5 (List.map enc_Constituent p0_List) none])]), 4) ∧ (Still (List.flatMap enc_Constituent p0_List) ∧ L Ftrain_copiedL.c1_t ⟨[(2, CV.ptr 0 0)], [(0, [CV.int .i64 p0_Prime, CV.slice 5 1 0 (p0_List).length none]), (1, (List.flatMap enc_Constituent p0_List))], 2⟩)) := by kernel_rfl
theorem Ftrain_copiedL.b_ok (k : Nat) (p0_Prime : Int) (p0_List : List Constituent) (o : Ftrain_copiedL.R) (h : Ftrain_copiedL.b k  p0_Prime p0_List = some o) (Q : CV → CHeap → Prop) (hp : Ftrain_copiedL.Qr o Q) : Goes Tryz.prog 45 Tryz.f45.ntmps 0 4 [.code (bodyOf Tryz.f45)] ⟨argTm [CV.agg [CV.int .i64 p0_Prime, CV.ro 5 (List.map enc_Constituent p0_List) none]] 0 [], [], 0⟩ Q := by
  unfold Ftrain_copiedL.b at h
  by_cases g1 : (p0_List).length = 0
  · skip
    refine goes_hw noCall_sound Tryz.func45 10000 _ (Nat.zero_le _) (Eq.mpr (Ftrain_copiedL.b_eq0 p0_Prime p0_List _ _) ?_)
    exact (casK g1 h (fun h => ⟨(append_live_zero (enc := enc_Constituent) rfl Tryz.underlying30 sz23 rfl rfl rfl nz30 g1), ⟨Nat.le_of_ble_eq_true rfl, (Ftrain_copiedL.c0_ok k   p0_Prime _ h Q hp)⟩⟩))
  · skip
    refine goes_hw noCall_sound Tryz.func45 10000 _ (Nat.zero_le _) (Eq.mpr (Ftrain_copiedL.b_eq1 p0_Prime p0_List _ _) ?_)
    exact (casN g1 h (fun h => (grdK h (fun g2 h => ⟨(append_lit_all (enc := enc_Constituent) rfl Tryz.underlying30 sz23 rfl rfl rfl nz30 (by decide) (by decide) g1 g2 rfl), ⟨(still_flat enc_Constituent_still _), ⟨Nat.le_of_ble_eq_true rfl, (Ftrain_copiedL.c1_ok k   p0_Prime p0_List _ h Q hp)⟩⟩⟩))))
noncomputable def Ftrain_copiedL (k : Nat) (p0_Prime : Int) (p0_List : List Constituent) : Option Ftrain_copiedL.R := Ftrain_copiedL.b k p0_Prime p0_List
noncomputable def Ftrain_copiedL.LCs (p0_Prime : Int) (p0_List : List Constituent) (r : Ftrain_copiedL.R) : Prop := match r with
  | .s0 v0 => LC Tryz.prog 45 [CV.agg [CV.int .i64 p0_Prime, CV.ro 5 (List.map enc_Constituent p0_List) none]] (CV.agg [CV.int .i64 v0, CV.slice 5 1 0 0 (some 0)]) [(0, [CV.int .i64 v0, CV.slice 5 1 0 0 (some 0)]), (1, [])] 4
  | .s1 v0 v1 => LC Tryz.prog 45 [CV.agg [CV.int .i64 p0_Prime, CV.ro 5 (List.map enc_Constituent p0_List) none]] (CV.agg [CV.int .i64 v0, CV.slice 5 1 0 (v1).length none]) [(0, [CV.int .i64 v0, CV.slice 5 1 0 (v1).length none]), (1, (List.flatMap enc_Constituent v1))] 4
theorem Ftrain_copiedL_ok (k : Nat) (p0_Prime : Int) (p0_List : List Constituent) (r : Ftrain_copiedL.R) (h : Ftrain_copiedL k p0_Prime p0_List = some r) : Ftrain_copiedL.LCs p0_Prime p0_List r := by
  cases r with
  | s0 v0 => exact lc_of Tryz.func45 (c := bodyOf Tryz.f45) (top := 4) rfl rfl (Ftrain_copiedL.b_ok k p0_Prime p0_List _ h _ ⟨rfl, rfl⟩)
  | s1 v0 v1 => exact lc_of Tryz.func45 (c := bodyOf Tryz.f45) (top := 4) rfl rfl (Ftrain_copiedL.b_ok k p0_Prime p0_List _ h _ ⟨rfl, rfl⟩)
end Go.Cn
