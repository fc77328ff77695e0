import Derived.Test.YtgbijhccgmmkgaaGreatDoorTy11
import Derived.Test.YtgbijhccgmmkgaaGreatDoorProg
set_option linter.unusedVariables false
set_option maxRecDepth 100000
set_option maxHeartbeats 0
noncomputable section
namespace Go.Cn
open Go.Proofs
/-! ### quadform/train.total -/
abbrev F67.R : Type := Int
def F67.encR (r : F67.R) : CV := CV.int .i64 r
def F67.t0 : List Item := enter (dsc 10000 [] [.code (bodyOf Tryz.f47)])
abbrev F67.O0 : Type := Int
def F67.P0 (o : F67.O0) (Q : CV → CHeap → Prop) : Prop := match o with | v0 => Goes Tryz.prog 47 Tryz.f47.ntmps 0 1 (List.drop 3 F67.t0) ⟨[(5, CV.int .i64 v0)], [], 0⟩ Q
def F67.l0_b (k : Nat) (s0 : Int → (List Constituent) → Int → (List Int) → Int → Int → Option F67.O0) (v0 : Int) (v1 : List Constituent) (v2 : Int) (v3 : List Int) (v4 : Int) (v5 : Int) : Option F67.O0 := (if v5 < v4 then ((elt v3 v5).bind fun (a0 : Int) => ((elt v1 a0).bind fun (a1 : Constituent) => (s0 v0 v1 (IntKind.wrap .i64 (v2 + a1.Oddity)) v3 v4 (IntKind.wrap .i64 (v5 + (1 : Int)))))) else (some (v2)))
theorem F67.l0_b_eq (v0 : Int) (v1 : List Constituent) (v2 : Int) (v3 : List Int) (v4 : Int) (v5 : Int) (a0 : Int) (a1 : Constituent) (R : CV → CHeap → Nat → Prop) (L : List Item → CS → Prop) : hw Tryz.prog noCall Tryz.f47 0 1 10000 F67.t0 (.run 1 (.br [11] (.val (CV.rop [CV.int .i64 a0] 0) (.run 6 (.val (CV.rop [CV.int .i64 a1.Exp, CV.int .i64 a1.Dim, CV.int .i64 a1.Sign, CV.bool a1.Odd, CV.int .i64 a1.Oddity] 0) (.run 6 (.cut [2, 5, 8, 9, 10] [(0, 0)] [] 1 (.stp 1)))))) (.cut [5] [] [] 0 (.stp 1)))) ⟨[(2, CV.ptr 0 0), (5, CV.int .i64 v2), (8, CV.ro 1 (List.map zi v3) none), (9, CV.int .i64 v4), (10, CV.int .i64 v5)], [(0, [CV.int .i64 v0, CV.ro 5 (List.map zC v1) none])], 1⟩ R L = ((decide (v5 < v4)) = (decide (v5 < v4)) ∧ BIf (decide (v5 < v4)) (fun _ => (cindexAddr Tryz.prog 28 (CV.ro 1 (List.map zi v3) none) (CV.int .i64 v5) = some (CV.rop [CV.int .i64 a0] 0) ∧ (cindexAddr Tryz.prog 30 (CV.ro 5 (List.map zC v1) none) (CV.int .i64 a0) = some (CV.rop [CV.int .i64 a1.Exp, CV.int .i64 a1.Dim, CV.int .i64 a1.Sign, CV.bool a1.Odd, CV.int .i64 a1.Oddity] 0) ∧ (Clean (CV.ro 1 (List.map zi v3) none) ∧ (Clean (CV.ro 5 (List.map zC v1) none) ∧ L F67.t0 ⟨[(2, CV.ptr 0 0), (5, CV.int .i64 (IntKind.wrap .i64 (v2 + a1.Oddity))), (8, CV.ro 1 (List.map zi v3) none), (9, CV.int .i64 v4), (10, CV.int .i64 (IntKind.wrap .i64 (v5 + (1 : Int))))], [(0, [CV.int .i64 v0, CV.ro 5 (List.map zC v1) none])], 1⟩))))) (fun _ => L (List.drop 3 F67.t0) ⟨[(5, CV.int .i64 v2)], [], 0⟩)) := by kernel_rfl
theorem F67.l0_b_ok (k : Nat) (s0 : Int → (List Constituent) → Int → (List Int) → Int → Int → Option F67.O0) (hs0 : ∀ (v0 : Int) (v1 : List Constituent) (v2 : Int) (v3 : List Int) (v4 : Int) (v5 : Int) (o : F67.O0), s0 v0 v1 v2 v3 v4 v5 = some o → ∀ Q, F67.P0 o Q → Goes Tryz.prog 47 Tryz.f47.ntmps 0 1 F67.t0 ⟨[(2, CV.ptr 0 0), (5, CV.int .i64 v2), (8, CV.ro 1 (List.map zi v3) none), (9, CV.int .i64 v4), (10, CV.int .i64 v5)], [(0, [CV.int .i64 v0, CV.ro 5 (List.map zC v1) none])], 1⟩ Q) (v0 : Int) (v1 : List Constituent) (v2 : Int) (v3 : List Int) (v4 : Int) (v5 : Int) (o : F67.O0) (h : F67.l0_b k s0 v0 v1 v2 v3 v4 v5 = some o) (Q : CV → CHeap → Prop) (hp : F67.P0 o Q) : Goes Tryz.prog 47 Tryz.f47.ntmps 0 1 F67.t0 ⟨[(2, CV.ptr 0 0), (5, CV.int .i64 v2), (8, CV.ro 1 (List.map zi v3) none), (9, CV.int .i64 v4), (10, CV.int .i64 v5)], [(0, [CV.int .i64 v0, CV.ro 5 (List.map zC v1) none])], 1⟩ Q := by
  unfold F67.l0_b at h
  obtain ⟨a0, ea0⟩ : ∃ x, x = vl (elt v3 v5) := ⟨_, rfl⟩
  obtain ⟨a1, ea1⟩ : ∃ x, x = vl (elt v1 a0) := ⟨_, rfl⟩
  refine goes_hw noCall_sound Tryz.func47 10000 _ (Nat.zero_le _) (Eq.mpr (F67.l0_b_eq v0 v1 v2 v3 v4 v5 a0 a1 _ _) ?_)
  exact ⟨rfl, (bifD h (fun _ h => (bndK ea0 h (fun ha0 h => ⟨(idx_ro Tryz.underlying28 sz3 ha0), (bndK ea1 h (fun ha1 h => ⟨(idx_ro Tryz.underlying30 sz23 ha1), ⟨(clean_map zi_clean), ⟨(clean_map zC_clean), ⟨lR rfl, (hs0 v0 v1 (IntKind.wrap .i64 (v2 + a1.Oddity)) v3 v4 (IntKind.wrap .i64 (v5 + (1 : Int))) _ h Q hp)⟩⟩⟩⟩))⟩))) (fun _ h => ⟨lR rfl, (by cases h; exact hp)⟩))⟩
def F67.l0 (k : Nat) : Nat → Int → (List Constituent) → Int → (List Int) → Int → Int → Option F67.O0
  | 0, _, _, _, _, _, _ => none
  | j + 1, v0, v1, v2, v3, v4, v5 => F67.l0_b k (F67.l0 k j) v0 v1 v2 v3 v4 v5
theorem F67.g0_ok (k : Nat) : ∀ (j : Nat), (∀ (v0 : Int) (v1 : List Constituent) (v2 : Int) (v3 : List Int) (v4 : Int) (v5 : Int) (o : F67.O0), F67.l0 k j v0 v1 v2 v3 v4 v5 = some o → ∀ Q, F67.P0 o Q → Goes Tryz.prog 47 Tryz.f47.ntmps 0 1 F67.t0 ⟨[(2, CV.ptr 0 0), (5, CV.int .i64 v2), (8, CV.ro 1 (List.map zi v3) none), (9, CV.int .i64 v4), (10, CV.int .i64 v5)], [(0, [CV.int .i64 v0, CV.ro 5 (List.map zC v1) none])], 1⟩ Q) := by
  intro j
  induction j with
  | zero => exact fun v0 v1 v2 v3 v4 v5 o h => (by simp [F67.l0] at h)
  | succ j ih => exact fun v0 v1 v2 v3 v4 v5 o h Q hp => F67.l0_b_ok k (F67.l0 k j) ih v0 v1 v2 v3 v4 v5 o h Q hp
theorem F67.l0_ok (k j : Nat) : ∀ (v0 : Int) (v1 : List Constituent) (v2 : Int) (v3 : List Int) (v4 : Int) (v5 : Int) (o : F67.O0), F67.l0 k j v0 v1 v2 v3 v4 v5 = some o → ∀ Q, F67.P0 o Q → Goes Tryz.prog 47 Tryz.f47.ntmps 0 1 F67.t0 ⟨[(2, CV.ptr 0 0), (5, CV.int .i64 v2), (8, CV.ro 1 (List.map zi v3) none), (9, CV.int .i64 v4), (10, CV.int .i64 v5)], [(0, [CV.int .i64 v0, CV.ro 5 (List.map zC v1) none])], 1⟩ Q := (F67.g0_ok k j)
def F67.c0 (k : Nat) (v0 : Int) : Option F67.R := (some ((Int.tmod v0 (8 : Int))))
theorem F67.c0_eq (v0 : Int) (R : CV → CHeap → Nat → Prop) (L : List Item → CS → Prop) : hw Tryz.prog noCall Tryz.f47 0 1 10000 (List.drop 3 F67.t0) (.run 3 .nil) ⟨[(5, CV.int .i64 v0)], [], 0⟩ R L = R (CV.int .i64 (Int.tmod v0 (8 : Int))) [] 0 := by kernel_rfl
theorem F67.c0_ok (k : Nat) (v0 : Int) (o : F67.R) (h : F67.c0 k  v0 = some o) (Q : CV → CHeap → Prop) (hp : ∀ y K, Frz K y (F67.encR o) → Q y K) : Goes Tryz.prog 47 Tryz.f47.ntmps 0 1 (List.drop 3 F67.t0) ⟨[(5, CV.int .i64 v0)], [], 0⟩ Q := by
  unfold F67.c0 at h
  refine goes_hw noCall_sound Tryz.func47 10000 _ (Nat.zero_le _) (Eq.mpr (F67.c0_eq v0 _ _) ?_)
  exact ⟨lR rfl, (by cases h; exact hp _ _ (frz_clean clean_int))⟩
def F67.b (k : Nat) (p0Pr : Int) (p0L : List Constituent) (p1 : List Int) : Option F67.R := ((F67.l0 k k p0Pr p0L (0 : Int) p1 ((p1).length : Int) (0 : Int)).bind fun v0 => F67.c0 k  v0)
theorem F67.b_eq (p0Pr : Int) (p0L : List Constituent) (p1 : List Int) (R : CV → CHeap → Nat → Prop) (L : List Item → CS → Prop) : hw Tryz.prog noCall Tryz.f47 0 1 10000 [.code (bodyOf Tryz.f47)] (.run 4 (.val (CV.int .i64 ((p1).length : Int)) (.run 1 (.cut [2, 5, 8, 9, 10] [(0, 0)] [] 1 (.stp 2))))) ⟨argTm [CV.agg [CV.int .i64 p0Pr, CV.ro 5 (List.map zC p0L) none], CV.ro 1 (List.map zi p1) none] 0 [], [], 0⟩ R L = (clen Tryz.prog #[28] (CV.ro 1 (List.map zi p1) none) = some (CV.int .i64 ((p1).length : Int)) ∧ (Clean (CV.ro 1 (List.map zi p1) none) ∧ (Clean (CV.ro 5 (List.map zC p0L) none) ∧ L F67.t0 ⟨[(2, CV.ptr 0 0), (5, CV.int .i64 (0 : Int)), (8, CV.ro 1 (List.map zi p1) none), (9, CV.int .i64 ((p1).length : Int)), (10, CV.int .i64 (0 : Int))], [(0, [CV.int .i64 p0Pr, CV.ro 5 (List.map zC p0L) none])], 1⟩))) := by kernel_rfl
theorem F67.b_ok (k : Nat) (p0Pr : Int) (p0L : List Constituent) (p1 : List Int) (o : F67.R) (h : F67.b k  p0Pr p0L p1 = some o) (Q : CV → CHeap → Prop) (hp : ∀ y K, Frz K y (F67.encR o) → Q y K) : Goes Tryz.prog 47 Tryz.f47.ntmps 0 1 [.code (bodyOf Tryz.f47)] ⟨argTm [CV.agg [CV.int .i64 p0Pr, CV.ro 5 (List.map zC p0L) none], CV.ro 1 (List.map zi p1) none] 0 [], [], 0⟩ Q := by
  unfold F67.b at h
  refine goes_hw noCall_sound Tryz.func47 10000 _ (Nat.zero_le _) (Eq.mpr (F67.b_eq p0Pr p0L p1 _ _) ?_)
  exact ⟨(len_map rfl Tryz.underlying28), ⟨(clean_map zi_clean), ⟨(clean_map zC_clean), ⟨lR rfl, (bndL h (fun q hq h => (F67.l0_ok k k p0Pr p0L (0 : Int) p1 ((p1).length : Int) (0 : Int) q hq Q (F67.c0_ok k   q _ h Q hp))))⟩⟩⟩⟩
def F67 (k : Nat) (p0Pr : Int) (p0L : List Constituent) (p1 : List Int) : Option F67.R := F67.b k p0Pr p0L p1
theorem F68 (k : Nat) (p0Pr : Int) (p0L : List Constituent) (p1 : List Int) (r : F67.R) (h : F67 k p0Pr p0L p1 = some r) : PC Tryz.prog 47 [CV.agg [CV.int .i64 p0Pr, CV.ro 5 (List.map zC p0L) none], CV.ro 1 (List.map zi p1) none] (F67.encR r) :=
  pc_of Tryz.func47 (c := bodyOf Tryz.f47) (top := 1) rfl rfl ⟨(clean_aggL ⟨clean_int, (clean_map zC_clean), trivial⟩), (clean_map zi_clean), trivial⟩ clean_int (F67.b_ok k p0Pr p0L p1 r h _ fun y K hf => hf)
end Go.Cn
