import Derived.Test.YtgbijhccgmmkgaaGreatDoorTy11
import Derived.Test.YtgbijhccgmmkgaaGreatDoorTf11m1
import Derived.Test.YtgbijhccgmmkgaaGreatDoorTf11m3
import Derived.Test.YtgbijhccgmmkgaaGreatDoorProg
set_option linter.unusedVariables false
set_option maxRecDepth 100000
set_option maxHeartbeats 0
noncomputable section
namespace Go.Cn
open Go.Proofs
/-! ### quadform/train.Valid -/
abbrev F43.R : Type := Bool
def F43.encR (r : F43.R) : CV := CV.bool r
def F43.t0 : List Item := enter (dsc 10000 [] [.code (bodyOf Tryz.f39)])
inductive F43.O0 where
  | ret (r : F43.R)
  | x0 (v0 : Int) (v1 : List Constituent)
def F43.P0 (o : F43.O0) (Q : CV → CHeap → Prop) : Prop := match o with
  | .ret r => ∀ y K, Frz K y (F43.encR r) → Q y K
  | .x0 v0 v1 => Goes Tryz.prog 39 Tryz.f39.ntmps 0 2 (List.drop 3 F43.t0) ⟨[(1, CV.ptr 0 0)], [(0, [CV.int .i64 v0, CV.ro 5 (List.map zC v1) none])], 1⟩ Q
def F43.l0_b (k : Nat) (s0 : Int → (List Constituent) → (List Constituent) → Int → Int → Option F43.O0) (v0 : Int) (v1 : List Constituent) (v2 : List Constituent) (v3 : Int) (v4 : Int) : Option F43.O0 := (if v4 < v3 then ((elt v2 v4).bind fun (a0 : Constituent) => ((F39 k a0.Exp a0.Dim a0.Sign a0.Odd a0.Oddity).bind fun (a1 : Bool) => (if a1 = true then (s0 v0 v1 v2 v3 (IntKind.wrap .i64 (v4 + (1 : Int)))) else (some (.ret (false)))))) else (some (.x0 v0 v1)))
theorem F43.l0_b_eq (v0 : Int) (v1 : List Constituent) (v2 : List Constituent) (v3 : Int) (v4 : Int) (a0 : Constituent) (a1 : Bool) (R : CV → CHeap → Nat → Prop) (L : List Item → CS → Prop) : hw Tryz.prog noCall Tryz.f39 0 2 10000 F43.t0 (.run 1 (.br [9] (.val (CV.rop [CV.int .i64 a0.Exp, CV.int .i64 a0.Dim, CV.int .i64 a0.Sign, CV.bool a0.Odd, CV.int .i64 a0.Oddity] 0) (.run 4 (.new false (CV.bool a1) [] 2 (.run 1 (.br [14] (.run 1 .nil) (.run 2 (.cut [1, 6, 7, 8] [(0, 0)] [] 1 (.stp 1)))))))) (.cut [1] [(0, 0)] [] 1 (.stp 1)))) ⟨[(1, CV.ptr 0 0), (6, CV.ro 5 (List.map zC v2) none), (7, CV.int .i64 v3), (8, CV.int .i64 v4)], [(0, [CV.int .i64 v0, CV.ro 5 (List.map zC v1) none])], 1⟩ R L = ((decide (v4 < v3)) = (decide (v4 < v3)) ∧ BIf (decide (v4 < v3)) (fun _ => (cindexAddr Tryz.prog 30 (CV.ro 5 (List.map zC v2) none) (CV.int .i64 v4) = some (CV.rop [CV.int .i64 a0.Exp, CV.int .i64 a0.Dim, CV.int .i64 a0.Sign, CV.bool a0.Odd, CV.int .i64 a0.Oddity] 0) ∧ (CallIs Tryz.prog 12 [CV.agg [CV.int .i64 a0.Exp, CV.int .i64 a0.Dim, CV.int .i64 a0.Sign, CV.bool a0.Odd, CV.int .i64 a0.Oddity]] [(1, [CV.int .i64 a0.Exp, CV.int .i64 a0.Dim, CV.int .i64 a0.Sign, CV.bool a0.Odd, CV.int .i64 a0.Oddity]), (0, [CV.int .i64 v0, CV.ro 5 (List.map zC v1) none])] 2 0 (CV.bool a1) [(1, [CV.int .i64 a0.Exp, CV.int .i64 a0.Dim, CV.int .i64 a0.Sign, CV.bool a0.Odd, CV.int .i64 a0.Oddity]), (0, [CV.int .i64 v0, CV.ro 5 (List.map zC v1) none])] 2 ∧ ((!a1) = (!a1) ∧ BIf (!a1) (fun _ => R (CV.bool false) [(1, [CV.int .i64 a0.Exp, CV.int .i64 a0.Dim, CV.int .i64 a0.Sign, CV.bool a0.Odd, CV.int .i64 a0.Oddity]), (0, [CV.int .i64 v0, CV.ro 5 (List.map zC v1) none])] 2) (fun _ => (Clean (CV.ro 5 (List.map zC v2) none) ∧ (Clean (CV.ro 5 (List.map zC v1) none) ∧ L F43.t0 ⟨[(1, CV.ptr 0 0), (6, CV.ro 5 (List.map zC v2) none), (7, CV.int .i64 v3), (8, CV.int .i64 (IntKind.wrap .i64 (v4 + (1 : Int))))], [(0, [CV.int .i64 v0, CV.ro 5 (List.map zC v1) none])], 1⟩))))))) (fun _ => (Clean (CV.ro 5 (List.map zC v1) none) ∧ L (List.drop 3 F43.t0) ⟨[(1, CV.ptr 0 0)], [(0, [CV.int .i64 v0, CV.ro 5 (List.map zC v1) none])], 1⟩))) := by kernel_rfl
theorem F43.l0_b_ok (k : Nat) (s0 : Int → (List Constituent) → (List Constituent) → Int → Int → Option F43.O0) (hs0 : ∀ (v0 : Int) (v1 : List Constituent) (v2 : List Constituent) (v3 : Int) (v4 : Int) (o : F43.O0), s0 v0 v1 v2 v3 v4 = some o → ∀ Q, F43.P0 o Q → Goes Tryz.prog 39 Tryz.f39.ntmps 0 2 F43.t0 ⟨[(1, CV.ptr 0 0), (6, CV.ro 5 (List.map zC v2) none), (7, CV.int .i64 v3), (8, CV.int .i64 v4)], [(0, [CV.int .i64 v0, CV.ro 5 (List.map zC v1) none])], 1⟩ Q) (v0 : Int) (v1 : List Constituent) (v2 : List Constituent) (v3 : Int) (v4 : Int) (o : F43.O0) (h : F43.l0_b k s0 v0 v1 v2 v3 v4 = some o) (Q : CV → CHeap → Prop) (hp : F43.P0 o Q) : Goes Tryz.prog 39 Tryz.f39.ntmps 0 2 F43.t0 ⟨[(1, CV.ptr 0 0), (6, CV.ro 5 (List.map zC v2) none), (7, CV.int .i64 v3), (8, CV.int .i64 v4)], [(0, [CV.int .i64 v0, CV.ro 5 (List.map zC v1) none])], 1⟩ Q := by
  unfold F43.l0_b at h
  obtain ⟨a0, ea0⟩ : ∃ x, x = vl (elt v2 v4) := ⟨_, rfl⟩
  obtain ⟨a1, ea1⟩ : ∃ x, x = vl (F39 k a0.Exp a0.Dim a0.Sign a0.Odd a0.Oddity) := ⟨_, rfl⟩
  refine goes_hw noCall_sound Tryz.func39 10000 _ (Nat.zero_le _) (Eq.mpr (F43.l0_b_eq v0 v1 v2 v3 v4 a0 a1 _ _) ?_)
  exact ⟨rfl, (bifD h (fun _ h => (bndK ea0 h (fun ha0 h => ⟨(idx_ro Tryz.underlying30 sz23 ha0), (bndK ea1 h (fun ha1 h => ⟨(callIs_pc False Tryz.func12 rfl rfl (F40 k a0.Exp a0.Dim a0.Sign a0.Odd a0.Oddity _ ha1) ⟨(reads_aggL ⟨(reads_clean clean_int), (reads_clean clean_int), (reads_clean clean_int), (reads_clean clean_bool), (reads_clean clean_int), trivial⟩), trivial⟩ trivial (fun h => h.elim) rfl), ⟨rfl, (bifNot (bifB h (fun _ h => ⟨(clean_map zC_clean), ⟨(clean_map zC_clean), ⟨lR rfl, (hs0 v0 v1 v2 v3 (IntKind.wrap .i64 (v4 + (1 : Int))) _ h Q hp)⟩⟩⟩) (fun _ h => ⟨lR rfl, (by cases h; exact hp _ _ (frz_clean clean_bool))⟩)))⟩⟩))⟩))) (fun _ h => ⟨(clean_map zC_clean), ⟨lR rfl, (by cases h; exact hp)⟩⟩))⟩
def F43.l0 (k : Nat) : Nat → Int → (List Constituent) → (List Constituent) → Int → Int → Option F43.O0
  | 0, _, _, _, _, _ => none
  | j + 1, v0, v1, v2, v3, v4 => F43.l0_b k (F43.l0 k j) v0 v1 v2 v3 v4
theorem F43.g0_ok (k : Nat) : ∀ (j : Nat), (∀ (v0 : Int) (v1 : List Constituent) (v2 : List Constituent) (v3 : Int) (v4 : Int) (o : F43.O0), F43.l0 k j v0 v1 v2 v3 v4 = some o → ∀ Q, F43.P0 o Q → Goes Tryz.prog 39 Tryz.f39.ntmps 0 2 F43.t0 ⟨[(1, CV.ptr 0 0), (6, CV.ro 5 (List.map zC v2) none), (7, CV.int .i64 v3), (8, CV.int .i64 v4)], [(0, [CV.int .i64 v0, CV.ro 5 (List.map zC v1) none])], 1⟩ Q) := by
  intro j
  induction j with
  | zero => exact fun v0 v1 v2 v3 v4 o h => (by simp [F43.l0] at h)
  | succ j ih => exact fun v0 v1 v2 v3 v4 o h Q hp => F43.l0_b_ok k (F43.l0 k j) ih v0 v1 v2 v3 v4 o h Q hp
theorem F43.l0_ok (k j : Nat) : ∀ (v0 : Int) (v1 : List Constituent) (v2 : List Constituent) (v3 : Int) (v4 : Int) (o : F43.O0), F43.l0 k j v0 v1 v2 v3 v4 = some o → ∀ Q, F43.P0 o Q → Goes Tryz.prog 39 Tryz.f39.ntmps 0 2 F43.t0 ⟨[(1, CV.ptr 0 0), (6, CV.ro 5 (List.map zC v2) none), (7, CV.int .i64 v3), (8, CV.int .i64 v4)], [(0, [CV.int .i64 v0, CV.ro 5 (List.map zC v1) none])], 1⟩ Q := (F43.g0_ok k j)
def F43.c0 (k : Nat) (v0 : Int) (v1 : List Constituent) : Option F43.R := ((F63 k v0 v1).bind fun (a2 : Bool) => (some (a2)))
theorem F43.c0_eq (v0 : Int) (v1 : List Constituent) (a2 : Bool) (R : CV → CHeap → Nat → Prop) (L : List Item → CS → Prop) : hw Tryz.prog noCall Tryz.f39 0 2 10000 (List.drop 3 F43.t0) (.run 1 (.new false (CV.bool a2) [] 1 (.run 1 .nil))) ⟨[(1, CV.ptr 0 0)], [(0, [CV.int .i64 v0, CV.ro 5 (List.map zC v1) none])], 1⟩ R L = (CallIs Tryz.prog 60 [CV.agg [CV.int .i64 v0, CV.ro 5 (List.map zC v1) none]] [(0, [CV.int .i64 v0, CV.ro 5 (List.map zC v1) none])] 1 0 (CV.bool a2) [(0, [CV.int .i64 v0, CV.ro 5 (List.map zC v1) none])] 1 ∧ R (CV.bool a2) [(0, [CV.int .i64 v0, CV.ro 5 (List.map zC v1) none])] 1) := by kernel_rfl
theorem F43.c0_ok (k : Nat) (v0 : Int) (v1 : List Constituent) (o : F43.R) (h : F43.c0 k  v0 v1 = some o) (Q : CV → CHeap → Prop) (hp : ∀ y K, Frz K y (F43.encR o) → Q y K) : Goes Tryz.prog 39 Tryz.f39.ntmps 0 2 (List.drop 3 F43.t0) ⟨[(1, CV.ptr 0 0)], [(0, [CV.int .i64 v0, CV.ro 5 (List.map zC v1) none])], 1⟩ Q := by
  unfold F43.c0 at h
  obtain ⟨a2, ea2⟩ : ∃ x, x = vl (F63 k v0 v1) := ⟨_, rfl⟩
  refine goes_hw noCall_sound Tryz.func39 10000 _ (Nat.zero_le _) (Eq.mpr (F43.c0_eq v0 v1 a2 _ _) ?_)
  exact (bndK ea2 h (fun ha2 h => ⟨(callIs_pc False Tryz.func60 rfl rfl (F64 k v0 v1 _ ha2) ⟨(reads_aggL ⟨(reads_clean clean_int), (reads_clean (clean_map zC_clean)), trivial⟩), trivial⟩ trivial (fun h => h.elim) rfl), ⟨lR rfl, (by cases h; exact hp _ _ (frz_clean clean_bool))⟩⟩))
def F43.b (k : Nat) (p0Pr : Int) (p0L : List Constituent) : Option F43.R := ((F43.l0 k k p0Pr p0L p0L ((p0L).length : Int) (0 : Int)).bind fun o => match o with | .ret r => some r | .x0 v0 v1 => F43.c0 k  v0 v1)
theorem F43.b_eq (p0Pr : Int) (p0L : List Constituent) (R : CV → CHeap → Nat → Prop) (L : List Item → CS → Prop) : hw Tryz.prog noCall Tryz.f39 0 2 10000 [.code (bodyOf Tryz.f39)] (.run 4 (.val (CV.int .i64 ((p0L).length : Int)) (.run 1 (.cut [1, 6, 7, 8] [(0, 0)] [] 1 (.stp 2))))) ⟨argTm [CV.agg [CV.int .i64 p0Pr, CV.ro 5 (List.map zC p0L) none]] 0 [], [], 0⟩ R L = (clen Tryz.prog #[30] (CV.ro 5 (List.map zC p0L) none) = some (CV.int .i64 ((p0L).length : Int)) ∧ (Clean (CV.ro 5 (List.map zC p0L) none) ∧ (Clean (CV.ro 5 (List.map zC p0L) none) ∧ L F43.t0 ⟨[(1, CV.ptr 0 0), (6, CV.ro 5 (List.map zC p0L) none), (7, CV.int .i64 ((p0L).length : Int)), (8, CV.int .i64 (0 : Int))], [(0, [CV.int .i64 p0Pr, CV.ro 5 (List.map zC p0L) none])], 1⟩))) := by kernel_rfl
theorem F43.b_ok (k : Nat) (p0Pr : Int) (p0L : List Constituent) (o : F43.R) (h : F43.b k  p0Pr p0L = some o) (Q : CV → CHeap → Prop) (hp : ∀ y K, Frz K y (F43.encR o) → Q y K) : Goes Tryz.prog 39 Tryz.f39.ntmps 0 2 [.code (bodyOf Tryz.f39)] ⟨argTm [CV.agg [CV.int .i64 p0Pr, CV.ro 5 (List.map zC p0L) none]] 0 [], [], 0⟩ Q := by
  unfold F43.b at h
  refine goes_hw noCall_sound Tryz.func39 10000 _ (Nat.zero_le _) (Eq.mpr (F43.b_eq p0Pr p0L _ _) ?_)
  exact ⟨(len_map rfl Tryz.underlying30), ⟨(clean_map zC_clean), ⟨(clean_map zC_clean), ⟨lR rfl, (bndL h (fun q hq h => (F43.l0_ok k k p0Pr p0L p0L ((p0L).length : Int) (0 : Int) q hq Q (by cases q with | ret r => (cases h; exact hp) | x0 v0 v1 => exact F43.c0_ok k   v0 v1 _ h Q hp))))⟩⟩⟩⟩
def F43 (k : Nat) (p0Pr : Int) (p0L : List Constituent) : Option F43.R := F43.b k p0Pr p0L
theorem F44 (k : Nat) (p0Pr : Int) (p0L : List Constituent) (r : F43.R) (h : F43 k p0Pr p0L = some r) : PC Tryz.prog 39 [CV.agg [CV.int .i64 p0Pr, CV.ro 5 (List.map zC p0L) none]] (F43.encR r) :=
  pc_of Tryz.func39 (c := bodyOf Tryz.f39) (top := 2) rfl rfl ⟨(clean_aggL ⟨clean_int, (clean_map zC_clean), trivial⟩), trivial⟩ clean_bool (F43.b_ok k p0Pr p0L r h _ fun y K hf => hf)
end Go.Cn
