import Derived.Test.YtgbijhccgmmkgabGreatDoorTy13
import Derived.Test.YtgbijhccgmmkgabGreatDoorProg
set_option linter.unusedVariables false
set_option linter.unusedSimpArgs false
set_option maxRecDepth 100000
set_option maxHeartbeats 0
noncomputable section
namespace Go.Cn
open Go.Proofs
/-! ### quadform/quadformref24.SameList -/
abbrev F13.R : Type := Bool
def F13.encR (r : F13.R) : CV := CV.bool r
def F13.t0 : List Item := enter (dsc 10000 [false] [.code (bodyOf Tryz.f45)])
inductive F13.O0 where
  | ret (r : F13.R)
  | x0
def F13.P0 (o : F13.O0) (Q : CV → CHeap → Prop) : Prop := match o with
  | .ret r => ∀ y K, Frz K y (F13.encR r) → Q y K
  | .x0 => Goes Tryz.prog 45 Tryz.f45.ntmps 0 1 (List.drop 3 F13.t0) ⟨[], [], 0⟩ Q
def F13.l0_b (k : Nat) (s0 : (List Constituent) → (List Constituent) → Int → Int → Option F13.O0) (v0 : List Constituent) (v1 : List Constituent) (v2 : Int) (v3 : Int) : Option F13.O0 := (if v3 < v2 then ((elt v0 v3).bind fun (a0 : Constituent) => ((elt v1 v3).bind fun (a1 : Constituent) => (if a0 = a1 then (s0 v0 v1 v2 (IntKind.wrap .i64 (v3 + (1 : Int)))) else (some (.ret (false)))))) else (some (.x0)))
theorem F13.l0_b_eq (v0 : List Constituent) (v1 : List Constituent) (v2 : Int) (v3 : Int) (a0 : Constituent) (a1 : Constituent) (R : CV → CHeap → Nat → Prop) (L : List Item → CS → Prop) : hw Tryz.prog noCall Tryz.f45 0 1 10000 F13.t0 (.run 1 (.br [14] (.run 4 (.val (CV.rop [CV.int .i64 a0.Exp, CV.int .i64 a0.Dim, CV.int .i64 a0.Sign, CV.bool a0.Odd, CV.int .i64 a0.Oddity] 0) (.run 3 (.val (CV.rop [CV.int .i64 a1.Exp, CV.int .i64 a1.Dim, CV.int .i64 a1.Sign, CV.bool a1.Odd, CV.int .i64 a1.Oddity] 0) (.run 1 (.val (CV.bool (!(decide (a0 = a1)))) (.br [24] (.run 1 .nil) (.run 2 (.cut [0, 1, 12, 13] [] [] 0 (.stp 1)))))))))) (.cut [] [] [] 0 (.stp 1)))) ⟨[(0, CV.ro 5 (List.map zC v0) none), (1, CV.ro 5 (List.map zC v1) none), (12, CV.int .i64 v2), (13, CV.int .i64 v3)], [], 0⟩ R L = ((decide (v3 < v2)) = (decide (v3 < v2)) ∧ BIf (decide (v3 < v2)) (fun _ => (cindexAddr Tryz.prog 22 (CV.ro 5 (List.map zC v0) none) (CV.int .i64 v3) = some (CV.rop [CV.int .i64 a0.Exp, CV.int .i64 a0.Dim, CV.int .i64 a0.Sign, CV.bool a0.Odd, CV.int .i64 a0.Oddity] 0) ∧ (cindexAddr Tryz.prog 22 (CV.ro 5 (List.map zC v1) none) (CV.int .i64 v3) = some (CV.rop [CV.int .i64 a1.Exp, CV.int .i64 a1.Dim, CV.int .i64 a1.Sign, CV.bool a1.Odd, CV.int .i64 a1.Oddity] 0) ∧ (cbin Tryz.prog .neq 45 (CV.agg [CV.int .i64 a0.Exp, CV.int .i64 a0.Dim, CV.int .i64 a0.Sign, CV.bool a0.Odd, CV.int .i64 a0.Oddity]) (CV.agg [CV.int .i64 a1.Exp, CV.int .i64 a1.Dim, CV.int .i64 a1.Sign, CV.bool a1.Odd, CV.int .i64 a1.Oddity]) = some (CV.bool (!(decide (a0 = a1)))) ∧ ((!(decide (a0 = a1))) = (!(decide (a0 = a1))) ∧ BIf (!(decide (a0 = a1))) (fun _ => R (CV.bool false) [] 0) (fun _ => (Clean (CV.ro 5 (List.map zC v0) none) ∧ (Clean (CV.ro 5 (List.map zC v1) none) ∧ L F13.t0 ⟨[(0, CV.ro 5 (List.map zC v0) none), (1, CV.ro 5 (List.map zC v1) none), (12, CV.int .i64 v2), (13, CV.int .i64 (IntKind.wrap .i64 (v3 + (1 : Int))))], [], 0⟩)))))))) (fun _ => L (List.drop 3 F13.t0) ⟨[], [], 0⟩)) := by kernel_rfl
theorem F13.l0_b_ok (k : Nat) (s0 : (List Constituent) → (List Constituent) → Int → Int → Option F13.O0) (hs0 : ∀ (v0 : List Constituent) (v1 : List Constituent) (v2 : Int) (v3 : Int) (o : F13.O0), s0 v0 v1 v2 v3 = some o → ∀ Q, F13.P0 o Q → Goes Tryz.prog 45 Tryz.f45.ntmps 0 1 F13.t0 ⟨[(0, CV.ro 5 (List.map zC v0) none), (1, CV.ro 5 (List.map zC v1) none), (12, CV.int .i64 v2), (13, CV.int .i64 v3)], [], 0⟩ Q) (v0 : List Constituent) (v1 : List Constituent) (v2 : Int) (v3 : Int) (o : F13.O0) (h : F13.l0_b k s0 v0 v1 v2 v3 = some o) (Q : CV → CHeap → Prop) (hp : F13.P0 o Q) : Goes Tryz.prog 45 Tryz.f45.ntmps 0 1 F13.t0 ⟨[(0, CV.ro 5 (List.map zC v0) none), (1, CV.ro 5 (List.map zC v1) none), (12, CV.int .i64 v2), (13, CV.int .i64 v3)], [], 0⟩ Q := by
  unfold F13.l0_b at h
  obtain ⟨a0, ea0⟩ : ∃ x, x = vl (elt v0 v3) := ⟨_, rfl⟩
  obtain ⟨a1, ea1⟩ : ∃ x, x = vl (elt v1 v3) := ⟨_, rfl⟩
  refine goes_hw noCall_sound Tryz.func45 10000 _ (Nat.zero_le _) (Eq.mpr (F13.l0_b_eq v0 v1 v2 v3 a0 a1 _ _) ?_)
  exact ⟨rfl, (bifD h (fun _ h => (bndK ea0 h (fun ha0 h => ⟨(idx_ro Tryz.underlying22 sz45 ha0), (bndK ea1 h (fun ha1 h => ⟨(idx_ro Tryz.underlying22 sz45 ha1), ⟨(eq45_neq (a0) (a1)), ⟨rfl, (bifNot (bifD h (fun _ h => ⟨(clean_map zC_clean), ⟨(clean_map zC_clean), ⟨lR rfl, (hs0 v0 v1 v2 (IntKind.wrap .i64 (v3 + (1 : Int))) _ h Q hp)⟩⟩⟩) (fun _ h => ⟨lR rfl, (by cases h; exact hp _ _ (frz_clean clean_bool))⟩)))⟩⟩⟩))⟩))) (fun _ h => ⟨lR rfl, (by cases h; exact hp)⟩))⟩
def F13.l0 (k : Nat) : Nat → (List Constituent) → (List Constituent) → Int → Int → Option F13.O0
  | 0, _, _, _, _ => none
  | j + 1, v0, v1, v2, v3 => F13.l0_b k (F13.l0 k j) v0 v1 v2 v3
theorem F13.g0_ok (k : Nat) : ∀ (j : Nat), (∀ (v0 : List Constituent) (v1 : List Constituent) (v2 : Int) (v3 : Int) (o : F13.O0), F13.l0 k j v0 v1 v2 v3 = some o → ∀ Q, F13.P0 o Q → Goes Tryz.prog 45 Tryz.f45.ntmps 0 1 F13.t0 ⟨[(0, CV.ro 5 (List.map zC v0) none), (1, CV.ro 5 (List.map zC v1) none), (12, CV.int .i64 v2), (13, CV.int .i64 v3)], [], 0⟩ Q) := by
  intro j
  induction j with
  | zero => exact fun v0 v1 v2 v3 o h => (by simp [F13.l0] at h)
  | succ j ih => exact fun v0 v1 v2 v3 o h Q hp => F13.l0_b_ok k (F13.l0 k j) ih v0 v1 v2 v3 o h Q hp
theorem F13.l0_ok (k j : Nat) : ∀ (v0 : List Constituent) (v1 : List Constituent) (v2 : Int) (v3 : Int) (o : F13.O0), F13.l0 k j v0 v1 v2 v3 = some o → ∀ Q, F13.P0 o Q → Goes Tryz.prog 45 Tryz.f45.ntmps 0 1 F13.t0 ⟨[(0, CV.ro 5 (List.map zC v0) none), (1, CV.ro 5 (List.map zC v1) none), (12, CV.int .i64 v2), (13, CV.int .i64 v3)], [], 0⟩ Q := (F13.g0_ok k j)
def F13.c0 (k : Nat) : Option F13.R := (some (true))
theorem F13.c0_eq (R : CV → CHeap → Nat → Prop) (L : List Item → CS → Prop) : hw Tryz.prog noCall Tryz.f45 0 1 10000 (List.drop 3 F13.t0) (.run 1 .nil) ⟨[], [], 0⟩ R L = R (CV.bool true) [] 0 := by kernel_rfl
theorem F13.c0_ok (k : Nat) (o : F13.R) (h : F13.c0 k   = some o) (Q : CV → CHeap → Prop) (hp : ∀ y K, Frz K y (F13.encR o) → Q y K) : Goes Tryz.prog 45 Tryz.f45.ntmps 0 1 (List.drop 3 F13.t0) ⟨[], [], 0⟩ Q := by
  unfold F13.c0 at h
  refine goes_hw noCall_sound Tryz.func45 10000 _ (Nat.zero_le _) (Eq.mpr (F13.c0_eq  _ _) ?_)
  exact ⟨lR rfl, (by cases h; exact hp _ _ (frz_clean clean_bool))⟩
def F13.b (k : Nat) (p0 : List Constituent) (p1 : List Constituent) : Option F13.R := (if ((p0).length : Int) = ((p1).length : Int) then ((F13.l0 k k p0 p1 ((p0).length : Int) (0 : Int)).bind fun o => match o with | .ret r => some r | .x0 => F13.c0 k  ) else (some (false)))
theorem F13.b_eq (p0 : List Constituent) (p1 : List Constituent) (R : CV → CHeap → Nat → Prop) (L : List Item → CS → Prop) : hw Tryz.prog noCall Tryz.f45 0 1 10000 [.code (bodyOf Tryz.f45)] (.run 2 (.val (CV.int .i64 ((p0).length : Int)) (.run 1 (.val (CV.int .i64 ((p1).length : Int)) (.run 1 (.br [10] (.run 1 .nil) (.run 1 (.val (CV.int .i64 ((p0).length : Int)) (.run 1 (.cut [0, 1, 12, 13] [] [] 0 (.stp 2))))))))))) ⟨argTm [CV.ro 5 (List.map zC p0) none, CV.ro 5 (List.map zC p1) none] 0 [], [], 0⟩ R L = (clen Tryz.prog #[22] (CV.ro 5 (List.map zC p0) none) = some (CV.int .i64 ((p0).length : Int)) ∧ (clen Tryz.prog #[22] (CV.ro 5 (List.map zC p1) none) = some (CV.int .i64 ((p1).length : Int)) ∧ ((((p0).length : Int) != ((p1).length : Int)) = (((p0).length : Int) != ((p1).length : Int)) ∧ BIf (((p0).length : Int) != ((p1).length : Int)) (fun _ => R (CV.bool false) [] 0) (fun _ => (clen Tryz.prog #[22] (CV.ro 5 (List.map zC p0) none) = some (CV.int .i64 ((p0).length : Int)) ∧ (Clean (CV.ro 5 (List.map zC p0) none) ∧ (Clean (CV.ro 5 (List.map zC p1) none) ∧ L F13.t0 ⟨[(0, CV.ro 5 (List.map zC p0) none), (1, CV.ro 5 (List.map zC p1) none), (12, CV.int .i64 ((p0).length : Int)), (13, CV.int .i64 (0 : Int))], [], 0⟩))))))) := by kernel_rfl
theorem F13.b_ok (k : Nat) (p0 : List Constituent) (p1 : List Constituent) (o : F13.R) (h : F13.b k  p0 p1 = some o) (Q : CV → CHeap → Prop) (hp : ∀ y K, Frz K y (F13.encR o) → Q y K) : Goes Tryz.prog 45 Tryz.f45.ntmps 0 1 [.code (bodyOf Tryz.f45)] ⟨argTm [CV.ro 5 (List.map zC p0) none, CV.ro 5 (List.map zC p1) none] 0 [], [], 0⟩ Q := by
  unfold F13.b at h
  refine goes_hw noCall_sound Tryz.func45 10000 _ (Nat.zero_le _) (Eq.mpr (F13.b_eq p0 p1 _ _) ?_)
  exact ⟨(len_map rfl Tryz.underlying22), ⟨(len_map rfl Tryz.underlying22), ⟨rfl, (bifN h (fun _ h => ⟨lR rfl, (by cases h; exact hp _ _ (frz_clean clean_bool))⟩) (fun _ h => ⟨(len_map rfl Tryz.underlying22), ⟨(clean_map zC_clean), ⟨(clean_map zC_clean), ⟨lR rfl, (bndL h (fun q hq h => (F13.l0_ok k k p0 p1 ((p0).length : Int) (0 : Int) q hq Q (by cases q with | ret r => (cases h; exact hp) | x0 => exact F13.c0_ok k    _ h Q hp))))⟩⟩⟩⟩))⟩⟩⟩
def F13 (k : Nat) (p0 : List Constituent) (p1 : List Constituent) : Option F13.R := F13.b k p0 p1
theorem F14 (k : Nat) (p0 : List Constituent) (p1 : List Constituent) (r : F13.R) (h : F13 k p0 p1 = some r) : PC Tryz.prog 45 [CV.ro 5 (List.map zC p0) none, CV.ro 5 (List.map zC p1) none] (F13.encR r) :=
  pc_of Tryz.func45 (c := bodyOf Tryz.f45) (top := 1) rfl rfl ⟨(clean_map zC_clean), (clean_map zC_clean), trivial⟩ clean_bool (F13.b_ok k p0 p1 r h _ fun y K hf => hf)
/-! ### quadform/quadformref26.Same -/
abbrev F29.R : Type := Bool
def F29.encR (r : F29.R) : CV := CV.bool r
def F29.b (k : Nat) (p0Pr : Int) (p0L : List Constituent) (p1Pr : Int) (p1L : List Constituent) : Option F29.R := (if p0Pr = p1Pr then ((F13 k p0L p1L).bind fun (a0 : Bool) => (some (a0))) else (some (false)))
theorem F29.b_eq (p0Pr : Int) (p0L : List Constituent) (p1Pr : Int) (p1L : List Constituent) (a0 : Bool) (R : CV → CHeap → Nat → Prop) (L : List Item → CS → Prop) : hw Tryz.prog noCall Tryz.f18 0 2 10000 [.code (bodyOf Tryz.f18)] (.run 9 (.br [9, 10] (.run 8 (.new false (CV.bool a0) [] 2 (.run 2 .nil))) (.run 6 .nil))) ⟨argTm [CV.agg [CV.int .i64 p0Pr, CV.ro 5 (List.map zC p0L) none], CV.agg [CV.int .i64 p1Pr, CV.ro 5 (List.map zC p1L) none]] 0 [], [], 0⟩ R L = ((p0Pr == p1Pr) = (p0Pr == p1Pr) ∧ (p0Pr == p1Pr) = (p0Pr == p1Pr) ∧ BIf (p0Pr == p1Pr) (fun _ => (CallIs Tryz.prog 45 [CV.ro 5 (List.map zC p0L) none, CV.ro 5 (List.map zC p1L) none] [(1, [CV.int .i64 p1Pr, CV.ro 5 (List.map zC p1L) none]), (0, [CV.int .i64 p0Pr, CV.ro 5 (List.map zC p0L) none])] 2 0 (CV.bool a0) [(1, [CV.int .i64 p1Pr, CV.ro 5 (List.map zC p1L) none]), (0, [CV.int .i64 p0Pr, CV.ro 5 (List.map zC p0L) none])] 2 ∧ R (CV.bool a0) [(1, [CV.int .i64 p1Pr, CV.ro 5 (List.map zC p1L) none]), (0, [CV.int .i64 p0Pr, CV.ro 5 (List.map zC p0L) none])] 2)) (fun _ => R (CV.bool false) [(1, [CV.int .i64 p1Pr, CV.ro 5 (List.map zC p1L) none]), (0, [CV.int .i64 p0Pr, CV.ro 5 (List.map zC p0L) none])] 2)) := by kernel_rfl
theorem F29.b_ok (k : Nat) (p0Pr : Int) (p0L : List Constituent) (p1Pr : Int) (p1L : List Constituent) (o : F29.R) (h : F29.b k  p0Pr p0L p1Pr p1L = some o) (Q : CV → CHeap → Prop) (hp : ∀ y K, Frz K y (F29.encR o) → Q y K) : Goes Tryz.prog 18 Tryz.f18.ntmps 0 2 [.code (bodyOf Tryz.f18)] ⟨argTm [CV.agg [CV.int .i64 p0Pr, CV.ro 5 (List.map zC p0L) none], CV.agg [CV.int .i64 p1Pr, CV.ro 5 (List.map zC p1L) none]] 0 [], [], 0⟩ Q := by
  unfold F29.b at h
  obtain ⟨a0, ea0⟩ : ∃ x, x = vl (F13 k p0L p1L) := ⟨_, rfl⟩
  refine goes_hw noCall_sound Tryz.func18 10000 _ (Nat.zero_le _) (Eq.mpr (F29.b_eq p0Pr p0L p1Pr p1L a0 _ _) ?_)
  exact ⟨rfl, ⟨rfl, (bifE h (fun _ h => (bndK ea0 h (fun ha0 h => ⟨(callIs_pc False Tryz.func45 rfl rfl (F14 k p0L p1L _ ha0) ⟨(reads_clean (clean_map zC_clean)), (reads_clean (clean_map zC_clean)), trivial⟩ trivial (fun h => h.elim) rfl), ⟨lR rfl, (by cases h; exact hp _ _ (frz_clean clean_bool))⟩⟩))) (fun _ h => ⟨lR rfl, (by cases h; exact hp _ _ (frz_clean clean_bool))⟩))⟩⟩
def F29 (k : Nat) (p0Pr : Int) (p0L : List Constituent) (p1Pr : Int) (p1L : List Constituent) : Option F29.R := F29.b k p0Pr p0L p1Pr p1L
theorem F30 (k : Nat) (p0Pr : Int) (p0L : List Constituent) (p1Pr : Int) (p1L : List Constituent) (r : F29.R) (h : F29 k p0Pr p0L p1Pr p1L = some r) : PC Tryz.prog 18 [CV.agg [CV.int .i64 p0Pr, CV.ro 5 (List.map zC p0L) none], CV.agg [CV.int .i64 p1Pr, CV.ro 5 (List.map zC p1L) none]] (F29.encR r) :=
  pc_of Tryz.func18 (c := bodyOf Tryz.f18) (top := 2) rfl rfl ⟨(clean_aggL ⟨clean_int, (clean_map zC_clean), trivial⟩), (clean_aggL ⟨clean_int, (clean_map zC_clean), trivial⟩), trivial⟩ clean_bool (F29.b_ok k p0Pr p0L p1Pr p1L r h _ fun y K hf => hf)
end Go.Cn
