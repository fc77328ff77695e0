import Derived.Test.YtgbijhccgmmkgabGreatDoorTy13
import Derived.Test.YtgbijhccgmmkgabGreatDoorTf13m0
import Derived.Test.YtgbijhccgmmkgabGreatDoorProg
set_option linter.unusedVariables false
set_option linter.unusedSimpArgs false
set_option maxRecDepth 100000
set_option maxHeartbeats 0
noncomputable section
namespace Go.Cn
open Go.Proofs
/-! ### quadform/train.Valid -/
abbrev F33.R : Type := Bool
def F33.encR (r : F33.R) : CV := CV.bool r
def F33.t0 : List Item := enter (dsc 10000 [] [.code (bodyOf Tryz.f27)])
inductive F33.O0 where
  | ret (r : F33.R)
  | x0 (v0 : Int) (v1 : List ua0)
def F33.P0 (o : F33.O0) (Q : QT) : Prop := match o with
  | .ret r => ∀ y K, Frz K y (F33.encR r) → Q y K
  | .x0 v0 v1 => Goes Tryz.prog 27 Tryz.f27.ntmps 0 2 (List.drop 3 F33.t0) ⟨[(1, CV.ptr 0 0)], [(0, [CV.int .i64 v0, CV.ro 5 (List.map zC v1) none])], 1⟩ Q
def F33.l0_b (k : Nat) (s0 : Int → (List ua0) → (List ua0) → Int → Int → Option F33.O0) (v0 : Int) (v1 : List ua0) (v2 : List ua0) (v3 : Int) (v4 : Int) : Option F33.O0 := (if v4 < v3 then ((elt v2 v4).bind fun (a0 : ua0) => ((F29 k a0.Exp a0.Dim a0.Sign a0.Odd a0.Oddity).bind fun (a1 : Bool) => (if a1 = true then (s0 v0 v1 v2 v3 (IntKind.wrap .i64 (v4 + (1 : Int)))) else (some (.ret (false)))))) else (some (.x0 v0 v1)))
theorem F33.l0_b_eq (v0 : Int) (v1 : List ua0) (v2 : List ua0) (v3 : Int) (v4 : Int) (a0 : ua0) (a1 : Bool) (R : RT) (L : LT) : hw Tryz.prog noCall Tryz.f27 0 2 10000 F33.t0 (.run 1 (.br [9] (.val (CV.rop [CV.int .i64 a0.Exp, CV.int .i64 a0.Dim, CV.int .i64 a0.Sign, CV.bool a0.Odd, CV.int .i64 a0.Oddity] 0) (.run 4 (.new false (CV.bool a1) [] 2 (.run 1 (.br [14] (.run 1 .nil) (.run 2 (.cut [1, 6, 7, 8] [(0, 0)] [] 1 (.stp 1)))))))) (.cut [1] [(0, 0)] [] 1 (.stp 1)))) ⟨[(1, CV.ptr 0 0), (6, CV.ro 5 (List.map zC v2) none), (7, CV.int .i64 v3), (8, CV.int .i64 v4)], [(0, [CV.int .i64 v0, CV.ro 5 (List.map zC v1) none])], 1⟩ R L = ((decide (v4 < v3)) = (decide (v4 < v3)) ∧ BIf (decide (v4 < v3)) (fun _ => (cindexAddr Tryz.prog 22 (CV.ro 5 (List.map zC v2) none) (CV.int .i64 v4) = some (CV.rop [CV.int .i64 a0.Exp, CV.int .i64 a0.Dim, CV.int .i64 a0.Sign, CV.bool a0.Odd, CV.int .i64 a0.Oddity] 0) ∧ (ub8 Tryz.prog 59 [CV.agg [CV.int .i64 a0.Exp, CV.int .i64 a0.Dim, CV.int .i64 a0.Sign, CV.bool a0.Odd, CV.int .i64 a0.Oddity]] [(1, [CV.int .i64 a0.Exp, CV.int .i64 a0.Dim, CV.int .i64 a0.Sign, CV.bool a0.Odd, CV.int .i64 a0.Oddity]), (0, [CV.int .i64 v0, CV.ro 5 (List.map zC v1) none])] 2 0 (CV.bool a1) [(1, [CV.int .i64 a0.Exp, CV.int .i64 a0.Dim, CV.int .i64 a0.Sign, CV.bool a0.Odd, CV.int .i64 a0.Oddity]), (0, [CV.int .i64 v0, CV.ro 5 (List.map zC v1) none])] 2 ∧ ((!a1) = (!a1) ∧ BIf (!a1) (fun _ => R (CV.bool false) [(1, [CV.int .i64 a0.Exp, CV.int .i64 a0.Dim, CV.int .i64 a0.Sign, CV.bool a0.Odd, CV.int .i64 a0.Oddity]), (0, [CV.int .i64 v0, CV.ro 5 (List.map zC v1) none])] 2) (fun _ => (ub0 (CV.ro 5 (List.map zC v2) none) ∧ (ub0 (CV.ro 5 (List.map zC v1) none) ∧ L F33.t0 ⟨[(1, CV.ptr 0 0), (6, CV.ro 5 (List.map zC v2) none), (7, CV.int .i64 v3), (8, CV.int .i64 (IntKind.wrap .i64 (v4 + (1 : Int))))], [(0, [CV.int .i64 v0, CV.ro 5 (List.map zC v1) none])], 1⟩))))))) (fun _ => (ub0 (CV.ro 5 (List.map zC v1) none) ∧ L (List.drop 3 F33.t0) ⟨[(1, CV.ptr 0 0)], [(0, [CV.int .i64 v0, CV.ro 5 (List.map zC v1) none])], 1⟩))) := by kernel_rfl
theorem F33.l0_b_ok (k : Nat) (s0 : Int → (List ua0) → (List ua0) → Int → Int → Option F33.O0) (hs0 : ∀ (v0 : Int) (v1 : List ua0) (v2 : List ua0) (v3 : Int) (v4 : Int) (o : F33.O0), s0 v0 v1 v2 v3 v4 = some o → ∀ Q, F33.P0 o Q → Goes Tryz.prog 27 Tryz.f27.ntmps 0 2 F33.t0 ⟨[(1, CV.ptr 0 0), (6, CV.ro 5 (List.map zC v2) none), (7, CV.int .i64 v3), (8, CV.int .i64 v4)], [(0, [CV.int .i64 v0, CV.ro 5 (List.map zC v1) none])], 1⟩ Q) (v0 : Int) (v1 : List ua0) (v2 : List ua0) (v3 : Int) (v4 : Int) (o : F33.O0) (h : F33.l0_b k s0 v0 v1 v2 v3 v4 = some o) (Q : QT) (hp : F33.P0 o Q) : Goes Tryz.prog 27 Tryz.f27.ntmps 0 2 F33.t0 ⟨[(1, CV.ptr 0 0), (6, CV.ro 5 (List.map zC v2) none), (7, CV.int .i64 v3), (8, CV.int .i64 v4)], [(0, [CV.int .i64 v0, CV.ro 5 (List.map zC v1) none])], 1⟩ Q := by
  unfold F33.l0_b at h
  obtain ⟨a0, ea0⟩ : ∃ x, x = vl (elt v2 v4) := ⟨_, rfl⟩
  obtain ⟨a1, ea1⟩ : ∃ x, x = vl (F29 k a0.Exp a0.Dim a0.Sign a0.Odd a0.Oddity) := ⟨_, rfl⟩
  refine ub3 ua6 Tryz.func27 10000 _ (Nat.zero_le _) (Eq.mpr (F33.l0_b_eq v0 v1 v2 v3 v4 a0 a1 _ _) ?_)
  exact ⟨rfl, (bifD h (fun _ h => (bndK ea0 h (fun ha0 h => ⟨(ud0 Tryz.underlying22 sz45 ha0), (bndK ea1 h (fun ha1 h => ⟨(ub4 False Tryz.func59 rfl rfl (F30 k a0.Exp a0.Dim a0.Sign a0.Odd a0.Oddity _ ha1) ⟨(ub5 ⟨(ua3 ua1), (ua3 ua1), (ua3 ua1), (ua3 ua5), (ua3 ua1), trivial⟩), trivial⟩ trivial (fun h => h.elim) rfl), ⟨rfl, (bifNot (bifB h (fun _ h => ⟨(ua2 ua7), ⟨(ua2 ua7), ⟨lR rfl, (hs0 v0 v1 v2 v3 (IntKind.wrap .i64 (v4 + (1 : Int))) _ h Q hp)⟩⟩⟩) (fun _ h => ⟨lR rfl, (by cases h; exact hp _ _ (ua4 ua5))⟩)))⟩⟩))⟩))) (fun _ h => ⟨(ua2 ua7), ⟨lR rfl, (by cases h; exact hp)⟩⟩))⟩
def F33.l0 (k : Nat) : Nat → Int → (List ua0) → (List ua0) → Int → Int → Option F33.O0
  | 0, _, _, _, _, _ => none
  | j + 1, v0, v1, v2, v3, v4 => F33.l0_b k (F33.l0 k j) v0 v1 v2 v3 v4
theorem F33.g0_ok (k : Nat) : ∀ (j : Nat), (∀ (v0 : Int) (v1 : List ua0) (v2 : List ua0) (v3 : Int) (v4 : Int) (o : F33.O0), F33.l0 k j v0 v1 v2 v3 v4 = some o → ∀ Q, F33.P0 o Q → Goes Tryz.prog 27 Tryz.f27.ntmps 0 2 F33.t0 ⟨[(1, CV.ptr 0 0), (6, CV.ro 5 (List.map zC v2) none), (7, CV.int .i64 v3), (8, CV.int .i64 v4)], [(0, [CV.int .i64 v0, CV.ro 5 (List.map zC v1) none])], 1⟩ Q) := by
  intro j
  induction j with
  | zero => exact fun v0 v1 v2 v3 v4 o h => (by simp [F33.l0] at h)
  | succ j ih => exact fun v0 v1 v2 v3 v4 o h Q hp => F33.l0_b_ok k (F33.l0 k j) ih v0 v1 v2 v3 v4 o h Q hp
theorem F33.l0_ok (k j : Nat) : ∀ (v0 : Int) (v1 : List ua0) (v2 : List ua0) (v3 : Int) (v4 : Int) (o : F33.O0), F33.l0 k j v0 v1 v2 v3 v4 = some o → ∀ Q, F33.P0 o Q → Goes Tryz.prog 27 Tryz.f27.ntmps 0 2 F33.t0 ⟨[(1, CV.ptr 0 0), (6, CV.ro 5 (List.map zC v2) none), (7, CV.int .i64 v3), (8, CV.int .i64 v4)], [(0, [CV.int .i64 v0, CV.ro 5 (List.map zC v1) none])], 1⟩ Q := (F33.g0_ok k j)
def F33.c0 (k : Nat) (v0 : Int) (v1 : List ua0) : Option F33.R := ((F45 k v0 v1).bind fun (a2 : Bool) => (some (a2)))
theorem F33.c0_eq (v0 : Int) (v1 : List ua0) (a2 : Bool) (R : RT) (L : LT) : hw Tryz.prog noCall Tryz.f27 0 2 10000 (List.drop 3 F33.t0) (.run 1 (.new false (CV.bool a2) [] 1 (.run 1 .nil))) ⟨[(1, CV.ptr 0 0)], [(0, [CV.int .i64 v0, CV.ro 5 (List.map zC v1) none])], 1⟩ R L = (ub8 Tryz.prog 60 [CV.agg [CV.int .i64 v0, CV.ro 5 (List.map zC v1) none]] [(0, [CV.int .i64 v0, CV.ro 5 (List.map zC v1) none])] 1 0 (CV.bool a2) [(0, [CV.int .i64 v0, CV.ro 5 (List.map zC v1) none])] 1 ∧ R (CV.bool a2) [(0, [CV.int .i64 v0, CV.ro 5 (List.map zC v1) none])] 1) := by kernel_rfl
theorem F33.c0_ok (k : Nat) (v0 : Int) (v1 : List ua0) (o : F33.R) (h : F33.c0 k  v0 v1 = some o) (Q : QT) (hp : ∀ y K, Frz K y (F33.encR o) → Q y K) : Goes Tryz.prog 27 Tryz.f27.ntmps 0 2 (List.drop 3 F33.t0) ⟨[(1, CV.ptr 0 0)], [(0, [CV.int .i64 v0, CV.ro 5 (List.map zC v1) none])], 1⟩ Q := by
  unfold F33.c0 at h
  obtain ⟨a2, ea2⟩ : ∃ x, x = vl (F45 k v0 v1) := ⟨_, rfl⟩
  refine ub3 ua6 Tryz.func27 10000 _ (Nat.zero_le _) (Eq.mpr (F33.c0_eq v0 v1 a2 _ _) ?_)
  exact (bndK ea2 h (fun ha2 h => ⟨(ub4 False Tryz.func60 rfl rfl (F46 k v0 v1 _ ha2) ⟨(ub5 ⟨(ua3 ua1), (ua3 (ua2 ua7)), trivial⟩), trivial⟩ trivial (fun h => h.elim) rfl), ⟨lR rfl, (by cases h; exact hp _ _ (ua4 ua5))⟩⟩))
def F33.b (k : Nat) (p0Pr : Int) (p0L : List ua0) : Option F33.R := ((F33.l0 k k p0Pr p0L p0L ((p0L).length : Int) (0 : Int)).bind fun o => match o with | .ret r => some r | .x0 v0 v1 => F33.c0 k  v0 v1)
theorem F33.b_eq (p0Pr : Int) (p0L : List ua0) (R : RT) (L : LT) : hw Tryz.prog noCall Tryz.f27 0 2 10000 [.code (bodyOf Tryz.f27)] (.run 4 (.val (CV.int .i64 ((p0L).length : Int)) (.run 1 (.cut [1, 6, 7, 8] [(0, 0)] [] 1 (.stp 2))))) ⟨argTm [CV.agg [CV.int .i64 p0Pr, CV.ro 5 (List.map zC p0L) none]] 0 [], [], 0⟩ R L = (clen Tryz.prog #[22] (CV.ro 5 (List.map zC p0L) none) = some (CV.int .i64 ((p0L).length : Int)) ∧ (ub0 (CV.ro 5 (List.map zC p0L) none) ∧ (ub0 (CV.ro 5 (List.map zC p0L) none) ∧ L F33.t0 ⟨[(1, CV.ptr 0 0), (6, CV.ro 5 (List.map zC p0L) none), (7, CV.int .i64 ((p0L).length : Int)), (8, CV.int .i64 (0 : Int))], [(0, [CV.int .i64 p0Pr, CV.ro 5 (List.map zC p0L) none])], 1⟩))) := by kernel_rfl
theorem F33.b_ok (k : Nat) (p0Pr : Int) (p0L : List ua0) (o : F33.R) (h : F33.b k  p0Pr p0L = some o) (Q : QT) (hp : ∀ y K, Frz K y (F33.encR o) → Q y K) : Goes Tryz.prog 27 Tryz.f27.ntmps 0 2 [.code (bodyOf Tryz.f27)] ⟨argTm [CV.agg [CV.int .i64 p0Pr, CV.ro 5 (List.map zC p0L) none]] 0 [], [], 0⟩ Q := by
  unfold F33.b at h
  refine ub3 ua6 Tryz.func27 10000 _ (Nat.zero_le _) (Eq.mpr (F33.b_eq p0Pr p0L _ _) ?_)
  exact ⟨(ud1 rfl Tryz.underlying22), ⟨(ua2 ua7), ⟨(ua2 ua7), ⟨lR rfl, (bndL h (fun q hq h => (F33.l0_ok k k p0Pr p0L p0L ((p0L).length : Int) (0 : Int) q hq Q (by cases q with | ret r => (cases h; exact hp) | x0 v0 v1 => exact F33.c0_ok k   v0 v1 _ h Q hp))))⟩⟩⟩⟩
def F33 (k : Nat) (p0Pr : Int) (p0L : List ua0) : Option F33.R := F33.b k p0Pr p0L
theorem F34 (k : Nat) (p0Pr : Int) (p0L : List ua0) (r : F33.R) (h : F33 k p0Pr p0L = some r) : PC Tryz.prog 27 [CV.agg [CV.int .i64 p0Pr, CV.ro 5 (List.map zC p0L) none]] (F33.encR r) :=
  uj7 Tryz.func27 (c := bodyOf Tryz.f27) (top := 2) rfl rfl ⟨(uc1 ⟨ua1, (ua2 ua7), trivial⟩), trivial⟩ ua5 (F33.b_ok k p0Pr p0L r h _ fun y K hf => hf)
end Go.Cn
