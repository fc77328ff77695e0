import Derived.Test.YtgbijhccgmmkgabGreatDoorTy13
import Derived.Test.YtgbijhccgmmkgabGreatDoorTf13m0
import Derived.Test.YtgbijhccgmmkgabGreatDoorTf13m4
import Derived.Test.YtgbijhccgmmkgabGreatDoorProg
set_option linter.unusedVariables false
set_option linter.unusedSimpArgs false
set_option maxRecDepth 100000
set_option maxHeartbeats 0
noncomputable section
namespace Go.Cn
open Go.Proofs
/-! ### quadform/train.IsCanonical -/
abbrev F67.R : Type := Bool
def F67.encR (r : F67.R) : CV := CV.bool r
def F67.t0 : List Item := enter (dsc 10000 [false] [.code (bodyOf Tryz.f22)])
inductive F67.O0 where
  | ret (r : F67.R)
  | x0 (v0 : Int) (v1 : List ua0)
def F67.P0 (o : F67.O0) (Q : QT) : Prop := match o with
  | .ret r => ∀ y K, Frz K y (F67.encR r) → Q y K
  | .x0 v0 v1 => Goes Tryz.prog 22 Tryz.f22.ntmps 0 2 (List.drop 3 F67.t0) ⟨[(1, CV.ptr 0 0)], [(0, [CV.int .i64 v0, CV.ro 5 (List.map zC v1) none])], 1⟩ Q
def F67.l0_b (k : Nat) (s0 : Int → (List ua0) → Int → Option F67.O0) (v0 : Int) (v1 : List ua0) (v2 : Int) : Option F67.O0 := (if v2 < ((v1).length : Int) then ((elt v1 v2).bind fun (a1 : ua0) => (if a1.Sign = (-1 : Int) then ((F89 k v0 v1 v2).bind fun (a2 : Bool) => (if a2 = true then (some (.ret (false))) else (s0 v0 v1 (IntKind.wrap .i64 (v2 + (1 : Int)))))) else (s0 v0 v1 (IntKind.wrap .i64 (v2 + (1 : Int)))))) else (some (.x0 v0 v1)))
theorem F67.l0_b_eq (v0 : Int) (v1 : List ua0) (v2 : Int) (a1 : ua0) (a2 : Bool) (R : RT) (L : LT) : hw Tryz.prog noCall Tryz.f22 0 2 10000 F67.t0 (.run 3 (.val (CV.int .i64 ((v1).length : Int)) (.run 1 (.br [13] (.run 3 (.val (CV.rop [CV.int .i64 a1.Exp, CV.int .i64 a1.Dim, CV.int .i64 a1.Sign, CV.bool a1.Odd, CV.int .i64 a1.Oddity] 0) (.run 4 (.br [22, 23] (.run 4 (.new false (CV.bool a2) [] 1 (.run 1 (.br [26, 27] (.run 1 .nil) (.run 3 (.cut [1, 3] [(0, 0)] [] 1 (.stp 1))))))) (.run 7 (.cut [1, 3] [(0, 0)] [] 1 (.stp 1))))))) (.cut [1] [(0, 0)] [] 1 (.stp 1)))))) ⟨[(1, CV.ptr 0 0), (3, CV.int .i64 v2)], [(0, [CV.int .i64 v0, CV.ro 5 (List.map zC v1) none])], 1⟩ R L = (clen Tryz.prog #[22] (CV.ro 5 (List.map zC v1) none) = some (CV.int .i64 ((v1).length : Int)) ∧ ((decide (v2 < ((v1).length : Int))) = (decide (v2 < ((v1).length : Int))) ∧ BIf (decide (v2 < ((v1).length : Int))) (fun _ => (cindexAddr Tryz.prog 22 (CV.ro 5 (List.map zC v1) none) (CV.int .i64 v2) = some (CV.rop [CV.int .i64 a1.Exp, CV.int .i64 a1.Dim, CV.int .i64 a1.Sign, CV.bool a1.Odd, CV.int .i64 a1.Oddity] 0) ∧ ((a1.Sign == (-1 : Int)) = (a1.Sign == (-1 : Int)) ∧ (a1.Sign == (-1 : Int)) = (a1.Sign == (-1 : Int)) ∧ BIf (a1.Sign == (-1 : Int)) (fun _ => (ub9 Tryz.prog 41 [CV.agg [CV.int .i64 v0, CV.ro 5 (List.map zC v1) none], CV.int .i64 v2] [(0, [CV.int .i64 v0, CV.ro 5 (List.map zC v1) none])] 1 0 (CV.bool a2) [(0, [CV.int .i64 v0, CV.ro 5 (List.map zC v1) none])] 1 ∧ (a2 = a2 ∧ a2 = a2 ∧ BIf a2 (fun _ => R (CV.bool false) [(0, [CV.int .i64 v0, CV.ro 5 (List.map zC v1) none])] 1) (fun _ => (ua8 (CV.ro 5 (List.map zC v1) none) ∧ L F67.t0 ⟨[(1, CV.ptr 0 0), (3, CV.int .i64 (IntKind.wrap .i64 (v2 + (1 : Int))))], [(0, [CV.int .i64 v0, CV.ro 5 (List.map zC v1) none])], 1⟩))))) (fun _ => (ua8 (CV.ro 5 (List.map zC v1) none) ∧ L F67.t0 ⟨[(1, CV.ptr 0 0), (3, CV.int .i64 (IntKind.wrap .i64 (v2 + (1 : Int))))], [(0, [CV.int .i64 v0, CV.ro 5 (List.map zC v1) none])], 1⟩))))) (fun _ => (ua8 (CV.ro 5 (List.map zC v1) none) ∧ L (List.drop 3 F67.t0) ⟨[(1, CV.ptr 0 0)], [(0, [CV.int .i64 v0, CV.ro 5 (List.map zC v1) none])], 1⟩)))) := by kernel_rfl
theorem F67.l0_b_ok (k : Nat) (s0 : Int → (List ua0) → Int → Option F67.O0) (hs0 : ∀ (v0 : Int) (v1 : List ua0) (v2 : Int) (o : F67.O0), s0 v0 v1 v2 = some o → ∀ Q, F67.P0 o Q → Goes Tryz.prog 22 Tryz.f22.ntmps 0 2 F67.t0 ⟨[(1, CV.ptr 0 0), (3, CV.int .i64 v2)], [(0, [CV.int .i64 v0, CV.ro 5 (List.map zC v1) none])], 1⟩ Q) (v0 : Int) (v1 : List ua0) (v2 : Int) (o : F67.O0) (h : F67.l0_b k s0 v0 v1 v2 = some o) (Q : QT) (hp : F67.P0 o Q) : Goes Tryz.prog 22 Tryz.f22.ntmps 0 2 F67.t0 ⟨[(1, CV.ptr 0 0), (3, CV.int .i64 v2)], [(0, [CV.int .i64 v0, CV.ro 5 (List.map zC v1) none])], 1⟩ Q := by
  unfold F67.l0_b at h
  obtain ⟨a1, ea1⟩ : ∃ x, x = vl (elt v1 v2) := ⟨_, rfl⟩
  obtain ⟨a2, ea2⟩ : ∃ x, x = vl (F89 k v0 v1 v2) := ⟨_, rfl⟩
  refine ua9 ua7 Tryz.func22 10000 _ (Nat.zero_le _) (Eq.mpr (F67.l0_b_eq v0 v1 v2 a1 a2 _ _) ?_)
  exact ⟨(uc9 rfl Tryz.underlying22), ⟨rfl, (bifD h (fun _ h => (bndK ea1 h (fun ha1 h => ⟨(uc3 Tryz.underlying22 sz45 ha1), ⟨rfl, ⟨rfl, (bifE h (fun _ h => (bndK ea2 h (fun ha2 h => ⟨(ub0 False Tryz.func41 rfl rfl (F90 k v0 v1 v2 _ ha2) ⟨(ub3 ⟨(ua3 ua2), (ua3 (ua1 ua4)), trivial⟩), (ua3 ua2), trivial⟩ trivial (fun h => h.elim) rfl), ⟨rfl, ⟨rfl, (bifB h (fun _ h => ⟨lR rfl, (by cases h; exact hp _ _ (ua5 ua6))⟩) (fun _ h => ⟨(ua1 ua4), ⟨lR rfl, (hs0 v0 v1 (IntKind.wrap .i64 (v2 + (1 : Int))) _ h Q hp)⟩⟩))⟩⟩⟩))) (fun _ h => ⟨(ua1 ua4), ⟨lR rfl, (hs0 v0 v1 (IntKind.wrap .i64 (v2 + (1 : Int))) _ h Q hp)⟩⟩))⟩⟩⟩))) (fun _ h => ⟨(ua1 ua4), ⟨lR rfl, (by cases h; exact hp)⟩⟩))⟩⟩
def F67.l0 (k : Nat) : Nat → Int → (List ua0) → Int → Option F67.O0
  | 0, _, _, _ => none
  | j + 1, v0, v1, v2 => F67.l0_b k (F67.l0 k j) v0 v1 v2
theorem F67.g0_ok (k : Nat) : ∀ (j : Nat), (∀ (v0 : Int) (v1 : List ua0) (v2 : Int) (o : F67.O0), F67.l0 k j v0 v1 v2 = some o → ∀ Q, F67.P0 o Q → Goes Tryz.prog 22 Tryz.f22.ntmps 0 2 F67.t0 ⟨[(1, CV.ptr 0 0), (3, CV.int .i64 v2)], [(0, [CV.int .i64 v0, CV.ro 5 (List.map zC v1) none])], 1⟩ Q) := by
  intro j
  induction j with
  | zero => exact fun v0 v1 v2 o h => (by simp [F67.l0] at h)
  | succ j ih => exact fun v0 v1 v2 o h Q hp => F67.l0_b_ok k (F67.l0 k j) ih v0 v1 v2 o h Q hp
theorem F67.l0_ok (k j : Nat) : ∀ (v0 : Int) (v1 : List ua0) (v2 : Int) (o : F67.O0), F67.l0 k j v0 v1 v2 = some o → ∀ Q, F67.P0 o Q → Goes Tryz.prog 22 Tryz.f22.ntmps 0 2 F67.t0 ⟨[(1, CV.ptr 0 0), (3, CV.int .i64 v2)], [(0, [CV.int .i64 v0, CV.ro 5 (List.map zC v1) none])], 1⟩ Q := (F67.g0_ok k j)
def F67.c0 (k : Nat) (v0 : Int) (v1 : List ua0) : Option F67.R := ((F71 k v0 v1).bind fun (a3 : Int × List ua0 × Bool) => (some (a3.2.2)))
theorem F67.c0_eq (v0 : Int) (v1 : List ua0) (a3 : Int × List ua0 × Bool) (R : RT) (L : LT) : hw Tryz.prog noCall Tryz.f22 0 2 10000 (List.drop 3 F67.t0) (.run 1 (.new false (CV.tup [CV.agg [CV.int .i64 a3.1, CV.ro 5 (List.map zC a3.2.1) none], CV.bool a3.2.2]) [] 1 (.run 8 .nil))) ⟨[(1, CV.ptr 0 0)], [(0, [CV.int .i64 v0, CV.ro 5 (List.map zC v1) none])], 1⟩ R L = (ub9 Tryz.prog 25 [CV.agg [CV.int .i64 v0, CV.ro 5 (List.map zC v1) none]] [(0, [CV.int .i64 v0, CV.ro 5 (List.map zC v1) none])] 1 0 (CV.tup [CV.agg [CV.int .i64 a3.1, CV.ro 5 (List.map zC a3.2.1) none], CV.bool a3.2.2]) [(0, [CV.int .i64 v0, CV.ro 5 (List.map zC v1) none])] 1 ∧ R (CV.bool a3.2.2) [(1, [CV.int .i64 a3.1, CV.ro 5 (List.map zC a3.2.1) none]), (0, [CV.int .i64 v0, CV.ro 5 (List.map zC v1) none])] 2) := by kernel_rfl
theorem F67.c0_ok (k : Nat) (v0 : Int) (v1 : List ua0) (o : F67.R) (h : F67.c0 k  v0 v1 = some o) (Q : QT) (hp : ∀ y K, Frz K y (F67.encR o) → Q y K) : Goes Tryz.prog 22 Tryz.f22.ntmps 0 2 (List.drop 3 F67.t0) ⟨[(1, CV.ptr 0 0)], [(0, [CV.int .i64 v0, CV.ro 5 (List.map zC v1) none])], 1⟩ Q := by
  unfold F67.c0 at h
  obtain ⟨a3, ea3⟩ : ∃ x, x = vl (F71 k v0 v1) := ⟨_, rfl⟩
  refine ua9 ua7 Tryz.func22 10000 _ (Nat.zero_le _) (Eq.mpr (F67.c0_eq v0 v1 a3 _ _) ?_)
  exact (bndK ea3 h (fun ha3 h => ⟨(ub0 False Tryz.func25 rfl rfl (F72 k v0 v1 _ ha3) ⟨(ub3 ⟨(ua3 ua2), (ua3 (ua1 ua4)), trivial⟩), trivial⟩ ⟨⟨trivial, (ua1 ua4), trivial⟩, trivial, trivial⟩ (fun h => h.elim) rfl), ⟨lR rfl, (by cases h; exact hp _ _ (ua5 ua6))⟩⟩))
def F67.b (k : Nat) (p0Pr : Int) (p0L : List ua0) : Option F67.R := ((F65 k p0Pr p0L).bind fun (a0 : Bool) => (if a0 = true then ((F67.l0 k k p0Pr p0L (1 : Int)).bind fun o => match o with | .ret r => some r | .x0 v0 v1 => F67.c0 k  v0 v1) else (some (false))))
theorem F67.b_eq (p0Pr : Int) (p0L : List ua0) (a0 : Bool) (R : RT) (L : LT) : hw Tryz.prog noCall Tryz.f22 0 2 10000 [.code (bodyOf Tryz.f22)] (.run 3 (.new false (CV.bool a0) [] 1 (.run 1 (.br [8] (.run 1 .nil) (.run 1 (.cut [1, 3] [(0, 0)] [] 1 (.stp 2))))))) ⟨argTm [CV.agg [CV.int .i64 p0Pr, CV.ro 5 (List.map zC p0L) none]] 0 [], [], 0⟩ R L = (ub9 Tryz.prog 29 [CV.agg [CV.int .i64 p0Pr, CV.ro 5 (List.map zC p0L) none]] [(0, [CV.int .i64 p0Pr, CV.ro 5 (List.map zC p0L) none])] 1 0 (CV.bool a0) [(0, [CV.int .i64 p0Pr, CV.ro 5 (List.map zC p0L) none])] 1 ∧ ((!a0) = (!a0) ∧ BIf (!a0) (fun _ => R (CV.bool false) [(0, [CV.int .i64 p0Pr, CV.ro 5 (List.map zC p0L) none])] 1) (fun _ => (ua8 (CV.ro 5 (List.map zC p0L) none) ∧ L F67.t0 ⟨[(1, CV.ptr 0 0), (3, CV.int .i64 (1 : Int))], [(0, [CV.int .i64 p0Pr, CV.ro 5 (List.map zC p0L) none])], 1⟩)))) := by kernel_rfl
theorem F67.b_ok (k : Nat) (p0Pr : Int) (p0L : List ua0) (o : F67.R) (h : F67.b k  p0Pr p0L = some o) (Q : QT) (hp : ∀ y K, Frz K y (F67.encR o) → Q y K) : Goes Tryz.prog 22 Tryz.f22.ntmps 0 2 [.code (bodyOf Tryz.f22)] ⟨argTm [CV.agg [CV.int .i64 p0Pr, CV.ro 5 (List.map zC p0L) none]] 0 [], [], 0⟩ Q := by
  unfold F67.b at h
  obtain ⟨a0, ea0⟩ : ∃ x, x = vl (F65 k p0Pr p0L) := ⟨_, rfl⟩
  refine ua9 ua7 Tryz.func22 10000 _ (Nat.zero_le _) (Eq.mpr (F67.b_eq p0Pr p0L a0 _ _) ?_)
  exact (bndK ea0 h (fun ha0 h => ⟨(ub0 False Tryz.func29 rfl rfl (F66 k p0Pr p0L _ ha0) ⟨(ub3 ⟨(ua3 ua2), (ua3 (ua1 ua4)), trivial⟩), trivial⟩ trivial (fun h => h.elim) rfl), ⟨rfl, (bifNot (bifB h (fun _ h => ⟨(ua1 ua4), ⟨lR rfl, (bndL h (fun q hq h => (F67.l0_ok k k p0Pr p0L (1 : Int) q hq Q (by cases q with | ret r => (cases h; exact hp) | x0 v0 v1 => exact F67.c0_ok k   v0 v1 _ h Q hp))))⟩⟩) (fun _ h => ⟨lR rfl, (by cases h; exact hp _ _ (ua5 ua6))⟩)))⟩⟩))
def F67 (k : Nat) (p0Pr : Int) (p0L : List ua0) : Option F67.R := F67.b k p0Pr p0L
theorem F68 (k : Nat) (p0Pr : Int) (p0L : List ua0) (r : F67.R) (h : F67 k p0Pr p0L = some r) : PC Tryz.prog 22 [CV.agg [CV.int .i64 p0Pr, CV.ro 5 (List.map zC p0L) none]] (F67.encR r) :=
  uf3 Tryz.func22 (c := bodyOf Tryz.f22) (top := 2) rfl rfl ⟨(uc0 ⟨ua2, (ua1 ua4), trivial⟩), trivial⟩ ua6 (F67.b_ok k p0Pr p0L r h _ fun y K hf => hf)
end Go.Cn
