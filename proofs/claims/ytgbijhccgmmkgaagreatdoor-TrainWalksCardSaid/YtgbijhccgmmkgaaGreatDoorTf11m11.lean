import Derived.Test.YtgbijhccgmmkgaaGreatDoorTy11
import Derived.Test.YtgbijhccgmmkgaaGreatDoorProg
set_option linter.unusedVariables false
set_option maxRecDepth 100000
set_option maxHeartbeats 0
noncomputable section
namespace Go.Cn
open Go.Proofs
/-! ### quadform/quadformref24.SameList -/
abbrev F11.R : Type := Bool
def F11.encR (r : F11.R) : CV := CV.bool r
def F11.t0 : List Item := enter (dsc 10000 [false] [.code (bodyOf Tryz.f42)])
inductive F11.O0 where
  | ret (r : F11.R)
  | x0
def F11.P0 (o : F11.O0) (Q : CV → CHeap → Prop) : Prop := match o with
  | .ret r => ∀ y K, Frz K y (F11.encR r) → Q y K
  | .x0 => Goes Tryz.prog 42 Tryz.f42.ntmps 0 1 (List.drop 3 F11.t0) ⟨[], [], 0⟩ Q
def F11.l0_b (k : Nat) (s0 : (List Constituent) → (List Constituent) → Int → Int → Option F11.O0) (v0 : List Constituent) (v1 : List Constituent) (v2 : Int) (v3 : Int) : Option F11.O0 := (if v3 < v2 then ((elt v0 v3).bind fun (a0 : Constituent) => ((elt v1 v3).bind fun (a1 : Constituent) => (if a0 = a1 then (s0 v0 v1 v2 (IntKind.wrap .i64 (v3 + (1 : Int)))) else (some (.ret (false)))))) else (some (.x0)))
theorem F11.l0_b_eq (v0 : List Constituent) (v1 : List Constituent) (v2 : Int) (v3 : Int) (a0 : Constituent) (a1 : Constituent) (R : CV → CHeap → Nat → Prop) (L : List Item → CS → Prop) : hw Tryz.prog noCall Tryz.f42 0 1 10000 F11.t0 (.run 1 (.br [14] (.run 4 (.val (CV.rop [CV.int .i64 a0.Exp, CV.int .i64 a0.Dim, CV.int .i64 a0.Sign, CV.bool a0.Odd, CV.int .i64 a0.Oddity] 0) (.run 3 (.val (CV.rop [CV.int .i64 a1.Exp, CV.int .i64 a1.Dim, CV.int .i64 a1.Sign, CV.bool a1.Odd, CV.int .i64 a1.Oddity] 0) (.run 1 (.val (CV.bool (!(decide (a0 = a1)))) (.br [24] (.run 1 .nil) (.run 2 (.cut [0, 1, 12, 13] [] [] 0 (.stp 1)))))))))) (.cut [] [] [] 0 (.stp 1)))) ⟨[(0, CV.ro 5 (List.map zC v0) none), (1, CV.ro 5 (List.map zC v1) none), (12, CV.int .i64 v2), (13, CV.int .i64 v3)], [], 0⟩ R L = ((decide (v3 < v2)) = (decide (v3 < v2)) ∧ BIf (decide (v3 < v2)) (fun _ => (cindexAddr Tryz.prog 30 (CV.ro 5 (List.map zC v0) none) (CV.int .i64 v3) = some (CV.rop [CV.int .i64 a0.Exp, CV.int .i64 a0.Dim, CV.int .i64 a0.Sign, CV.bool a0.Odd, CV.int .i64 a0.Oddity] 0) ∧ (cindexAddr Tryz.prog 30 (CV.ro 5 (List.map zC v1) none) (CV.int .i64 v3) = some (CV.rop [CV.int .i64 a1.Exp, CV.int .i64 a1.Dim, CV.int .i64 a1.Sign, CV.bool a1.Odd, CV.int .i64 a1.Oddity] 0) ∧ (cbin Tryz.prog .neq 23 (CV.agg [CV.int .i64 a0.Exp, CV.int .i64 a0.Dim, CV.int .i64 a0.Sign, CV.bool a0.Odd, CV.int .i64 a0.Oddity]) (CV.agg [CV.int .i64 a1.Exp, CV.int .i64 a1.Dim, CV.int .i64 a1.Sign, CV.bool a1.Odd, CV.int .i64 a1.Oddity]) = some (CV.bool (!(decide (a0 = a1)))) ∧ ((!(decide (a0 = a1))) = (!(decide (a0 = a1))) ∧ BIf (!(decide (a0 = a1))) (fun _ => R (CV.bool false) [] 0) (fun _ => (Clean (CV.ro 5 (List.map zC v0) none) ∧ (Clean (CV.ro 5 (List.map zC v1) none) ∧ L F11.t0 ⟨[(0, CV.ro 5 (List.map zC v0) none), (1, CV.ro 5 (List.map zC v1) none), (12, CV.int .i64 v2), (13, CV.int .i64 (IntKind.wrap .i64 (v3 + (1 : Int))))], [], 0⟩)))))))) (fun _ => L (List.drop 3 F11.t0) ⟨[], [], 0⟩)) := by kernel_rfl
theorem F11.l0_b_ok (k : Nat) (s0 : (List Constituent) → (List Constituent) → Int → Int → Option F11.O0) (hs0 : ∀ (v0 : List Constituent) (v1 : List Constituent) (v2 : Int) (v3 : Int) (o : F11.O0), s0 v0 v1 v2 v3 = some o → ∀ Q, F11.P0 o Q → Goes Tryz.prog 42 Tryz.f42.ntmps 0 1 F11.t0 ⟨[(0, CV.ro 5 (List.map zC v0) none), (1, CV.ro 5 (List.map zC v1) none), (12, CV.int .i64 v2), (13, CV.int .i64 v3)], [], 0⟩ Q) (v0 : List Constituent) (v1 : List Constituent) (v2 : Int) (v3 : Int) (o : F11.O0) (h : F11.l0_b k s0 v0 v1 v2 v3 = some o) (Q : CV → CHeap → Prop) (hp : F11.P0 o Q) : Goes Tryz.prog 42 Tryz.f42.ntmps 0 1 F11.t0 ⟨[(0, CV.ro 5 (List.map zC v0) none), (1, CV.ro 5 (List.map zC v1) none), (12, CV.int .i64 v2), (13, CV.int .i64 v3)], [], 0⟩ Q := by
  unfold F11.l0_b at h
  obtain ⟨a0, ea0⟩ : ∃ x, x = vl (elt v0 v3) := ⟨_, rfl⟩
  obtain ⟨a1, ea1⟩ : ∃ x, x = vl (elt v1 v3) := ⟨_, rfl⟩
  refine goes_hw noCall_sound Tryz.func42 10000 _ (Nat.zero_le _) (Eq.mpr (F11.l0_b_eq v0 v1 v2 v3 a0 a1 _ _) ?_)
  exact ⟨rfl, (bifD h (fun _ h => (bndK ea0 h (fun ha0 h => ⟨(idx_ro Tryz.underlying30 sz23 ha0), (bndK ea1 h (fun ha1 h => ⟨(idx_ro Tryz.underlying30 sz23 ha1), ⟨(eq23_neq (a0) (a1)), ⟨rfl, (bifNot (bifD h (fun _ h => ⟨(clean_map zC_clean), ⟨(clean_map zC_clean), ⟨lR rfl, (hs0 v0 v1 v2 (IntKind.wrap .i64 (v3 + (1 : Int))) _ h Q hp)⟩⟩⟩) (fun _ h => ⟨lR rfl, (by cases h; exact hp _ _ (frz_clean clean_bool))⟩)))⟩⟩⟩))⟩))) (fun _ h => ⟨lR rfl, (by cases h; exact hp)⟩))⟩
def F11.l0 (k : Nat) : Nat → (List Constituent) → (List Constituent) → Int → Int → Option F11.O0
  | 0, _, _, _, _ => none
  | j + 1, v0, v1, v2, v3 => F11.l0_b k (F11.l0 k j) v0 v1 v2 v3
theorem F11.g0_ok (k : Nat) : ∀ (j : Nat), (∀ (v0 : List Constituent) (v1 : List Constituent) (v2 : Int) (v3 : Int) (o : F11.O0), F11.l0 k j v0 v1 v2 v3 = some o → ∀ Q, F11.P0 o Q → Goes Tryz.prog 42 Tryz.f42.ntmps 0 1 F11.t0 ⟨[(0, CV.ro 5 (List.map zC v0) none), (1, CV.ro 5 (List.map zC v1) none), (12, CV.int .i64 v2), (13, CV.int .i64 v3)], [], 0⟩ Q) := by
  intro j
  induction j with
  | zero => exact fun v0 v1 v2 v3 o h => (by simp [F11.l0] at h)
  | succ j ih => exact fun v0 v1 v2 v3 o h Q hp => F11.l0_b_ok k (F11.l0 k j) ih v0 v1 v2 v3 o h Q hp
theorem F11.l0_ok (k j : Nat) : ∀ (v0 : List Constituent) (v1 : List Constituent) (v2 : Int) (v3 : Int) (o : F11.O0), F11.l0 k j v0 v1 v2 v3 = some o → ∀ Q, F11.P0 o Q → Goes Tryz.prog 42 Tryz.f42.ntmps 0 1 F11.t0 ⟨[(0, CV.ro 5 (List.map zC v0) none), (1, CV.ro 5 (List.map zC v1) none), (12, CV.int .i64 v2), (13, CV.int .i64 v3)], [], 0⟩ Q := (F11.g0_ok k j)
def F11.c0 (k : Nat) : Option F11.R := (some (true))
theorem F11.c0_eq (R : CV → CHeap → Nat → Prop) (L : List Item → CS → Prop) : hw Tryz.prog noCall Tryz.f42 0 1 10000 (List.drop 3 F11.t0) (.run 1 .nil) ⟨[], [], 0⟩ R L = R (CV.bool true) [] 0 := by kernel_rfl
theorem F11.c0_ok (k : Nat) (o : F11.R) (h : F11.c0 k   = some o) (Q : CV → CHeap → Prop) (hp : ∀ y K, Frz K y (F11.encR o) → Q y K) : Goes Tryz.prog 42 Tryz.f42.ntmps 0 1 (List.drop 3 F11.t0) ⟨[], [], 0⟩ Q := by
  unfold F11.c0 at h
  refine goes_hw noCall_sound Tryz.func42 10000 _ (Nat.zero_le _) (Eq.mpr (F11.c0_eq  _ _) ?_)
  exact ⟨lR rfl, (by cases h; exact hp _ _ (frz_clean clean_bool))⟩
def F11.b (k : Nat) (p0 : List Constituent) (p1 : List Constituent) : Option F11.R := (if ((p0).length : Int) = ((p1).length : Int) then ((F11.l0 k k p0 p1 ((p0).length : Int) (0 : Int)).bind fun o => match o with | .ret r => some r | .x0 => F11.c0 k  ) else (some (false)))
theorem F11.b_eq (p0 : List Constituent) (p1 : List Constituent) (R : CV → CHeap → Nat → Prop) (L : List Item → CS → Prop) : hw Tryz.prog noCall Tryz.f42 0 1 10000 [.code (bodyOf Tryz.f42)] (.run 2 (.val (CV.int .i64 ((p0).length : Int)) (.run 1 (.val (CV.int .i64 ((p1).length : Int)) (.run 1 (.br [10] (.run 1 .nil) (.run 1 (.val (CV.int .i64 ((p0).length : Int)) (.run 1 (.cut [0, 1, 12, 13] [] [] 0 (.stp 2))))))))))) ⟨argTm [CV.ro 5 (List.map zC p0) none, CV.ro 5 (List.map zC p1) none] 0 [], [], 0⟩ R L = (clen Tryz.prog #[30] (CV.ro 5 (List.map zC p0) none) = some (CV.int .i64 ((p0).length : Int)) ∧ (clen Tryz.prog #[30] (CV.ro 5 (List.map zC p1) none) = some (CV.int .i64 ((p1).length : Int)) ∧ ((((p0).length : Int) != ((p1).length : Int)) = (((p0).length : Int) != ((p1).length : Int)) ∧ BIf (((p0).length : Int) != ((p1).length : Int)) (fun _ => R (CV.bool false) [] 0) (fun _ => (clen Tryz.prog #[30] (CV.ro 5 (List.map zC p0) none) = some (CV.int .i64 ((p0).length : Int)) ∧ (Clean (CV.ro 5 (List.map zC p0) none) ∧ (Clean (CV.ro 5 (List.map zC p1) none) ∧ L F11.t0 ⟨[(0, CV.ro 5 (List.map zC p0) none), (1, CV.ro 5 (List.map zC p1) none), (12, CV.int .i64 ((p0).length : Int)), (13, CV.int .i64 (0 : Int))], [], 0⟩))))))) := by kernel_rfl
theorem F11.b_ok (k : Nat) (p0 : List Constituent) (p1 : List Constituent) (o : F11.R) (h : F11.b k  p0 p1 = some o) (Q : CV → CHeap → Prop) (hp : ∀ y K, Frz K y (F11.encR o) → Q y K) : Goes Tryz.prog 42 Tryz.f42.ntmps 0 1 [.code (bodyOf Tryz.f42)] ⟨argTm [CV.ro 5 (List.map zC p0) none, CV.ro 5 (List.map zC p1) none] 0 [], [], 0⟩ Q := by
  unfold F11.b at h
  refine goes_hw noCall_sound Tryz.func42 10000 _ (Nat.zero_le _) (Eq.mpr (F11.b_eq p0 p1 _ _) ?_)
  exact ⟨(len_map rfl Tryz.underlying30), ⟨(len_map rfl Tryz.underlying30), ⟨rfl, (bifN h (fun _ h => ⟨lR rfl, (by cases h; exact hp _ _ (frz_clean clean_bool))⟩) (fun _ h => ⟨(len_map rfl Tryz.underlying30), ⟨(clean_map zC_clean), ⟨(clean_map zC_clean), ⟨lR rfl, (bndL h (fun q hq h => (F11.l0_ok k k p0 p1 ((p0).length : Int) (0 : Int) q hq Q (by cases q with | ret r => (cases h; exact hp) | x0 => exact F11.c0_ok k    _ h Q hp))))⟩⟩⟩⟩))⟩⟩⟩
def F11 (k : Nat) (p0 : List Constituent) (p1 : List Constituent) : Option F11.R := F11.b k p0 p1
theorem F12 (k : Nat) (p0 : List Constituent) (p1 : List Constituent) (r : F11.R) (h : F11 k p0 p1 = some r) : PC Tryz.prog 42 [CV.ro 5 (List.map zC p0) none, CV.ro 5 (List.map zC p1) none] (F11.encR r) :=
  pc_of Tryz.func42 (c := bodyOf Tryz.f42) (top := 1) rfl rfl ⟨(clean_map zC_clean), (clean_map zC_clean), trivial⟩ clean_bool (F11.b_ok k p0 p1 r h _ fun y K hf => hf)
/-! ### quadform/quadformref26.Same -/
abbrev F19.R : Type := Bool
def F19.encR (r : F19.R) : CV := CV.bool r
def F19.b (k : Nat) (p0Pr : Int) (p0L : List Constituent) (p1P : Int) (p1L : List Constituent) : Option F19.R := (if p0Pr = p1P then ((F11 k p0L p1L).bind fun (a0 : Bool) => (some (a0))) else (some (false)))
theorem F19.b_eq (p0Pr : Int) (p0L : List Constituent) (p1P : Int) (p1L : List Constituent) (a0 : Bool) (R : CV → CHeap → Nat → Prop) (L : List Item → CS → Prop) : hw Tryz.prog noCall Tryz.f20 0 2 10000 [.code (bodyOf Tryz.f20)] (.run 9 (.br [9, 10] (.run 8 (.new false (CV.bool a0) [] 2 (.run 2 .nil))) (.run 6 .nil))) ⟨argTm [CV.agg [CV.int .i64 p0Pr, CV.ro 5 (List.map zC p0L) none], CV.agg [CV.int .i64 p1P, CV.ro 5 (List.map zC p1L) none]] 0 [], [], 0⟩ R L = ((p0Pr == p1P) = (p0Pr == p1P) ∧ (p0Pr == p1P) = (p0Pr == p1P) ∧ BIf (p0Pr == p1P) (fun _ => (CallIs Tryz.prog 42 [CV.ro 5 (List.map zC p0L) none, CV.ro 5 (List.map zC p1L) none] [(1, [CV.int .i64 p1P, CV.ro 5 (List.map zC p1L) none]), (0, [CV.int .i64 p0Pr, CV.ro 5 (List.map zC p0L) none])] 2 0 (CV.bool a0) [(1, [CV.int .i64 p1P, CV.ro 5 (List.map zC p1L) none]), (0, [CV.int .i64 p0Pr, CV.ro 5 (List.map zC p0L) none])] 2 ∧ R (CV.bool a0) [(1, [CV.int .i64 p1P, CV.ro 5 (List.map zC p1L) none]), (0, [CV.int .i64 p0Pr, CV.ro 5 (List.map zC p0L) none])] 2)) (fun _ => R (CV.bool false) [(1, [CV.int .i64 p1P, CV.ro 5 (List.map zC p1L) none]), (0, [CV.int .i64 p0Pr, CV.ro 5 (List.map zC p0L) none])] 2)) := by kernel_rfl
theorem F19.b_ok (k : Nat) (p0Pr : Int) (p0L : List Constituent) (p1P : Int) (p1L : List Constituent) (o : F19.R) (h : F19.b k  p0Pr p0L p1P p1L = some o) (Q : CV → CHeap → Prop) (hp : ∀ y K, Frz K y (F19.encR o) → Q y K) : Goes Tryz.prog 20 Tryz.f20.ntmps 0 2 [.code (bodyOf Tryz.f20)] ⟨argTm [CV.agg [CV.int .i64 p0Pr, CV.ro 5 (List.map zC p0L) none], CV.agg [CV.int .i64 p1P, CV.ro 5 (List.map zC p1L) none]] 0 [], [], 0⟩ Q := by
  unfold F19.b at h
  obtain ⟨a0, ea0⟩ : ∃ x, x = vl (F11 k p0L p1L) := ⟨_, rfl⟩
  refine goes_hw noCall_sound Tryz.func20 10000 _ (Nat.zero_le _) (Eq.mpr (F19.b_eq p0Pr p0L p1P p1L a0 _ _) ?_)
  exact ⟨rfl, ⟨rfl, (bifE h (fun _ h => (bndK ea0 h (fun ha0 h => ⟨(callIs_pc False Tryz.func42 rfl rfl (F12 k p0L p1L _ ha0) ⟨(reads_clean (clean_map zC_clean)), (reads_clean (clean_map zC_clean)), trivial⟩ trivial (fun h => h.elim) rfl), ⟨lR rfl, (by cases h; exact hp _ _ (frz_clean clean_bool))⟩⟩))) (fun _ h => ⟨lR rfl, (by cases h; exact hp _ _ (frz_clean clean_bool))⟩))⟩⟩
def F19 (k : Nat) (p0Pr : Int) (p0L : List Constituent) (p1P : Int) (p1L : List Constituent) : Option F19.R := F19.b k p0Pr p0L p1P p1L
theorem F20 (k : Nat) (p0Pr : Int) (p0L : List Constituent) (p1P : Int) (p1L : List Constituent) (r : F19.R) (h : F19 k p0Pr p0L p1P p1L = some r) : PC Tryz.prog 20 [CV.agg [CV.int .i64 p0Pr, CV.ro 5 (List.map zC p0L) none], CV.agg [CV.int .i64 p1P, CV.ro 5 (List.map zC p1L) none]] (F19.encR r) :=
  pc_of Tryz.func20 (c := bodyOf Tryz.f20) (top := 2) rfl rfl ⟨(clean_aggL ⟨clean_int, (clean_map zC_clean), trivial⟩), (clean_aggL ⟨clean_int, (clean_map zC_clean), trivial⟩), trivial⟩ clean_bool (F19.b_ok k p0Pr p0L p1P p1L r h _ fun y K hf => hf)
end Go.Cn
