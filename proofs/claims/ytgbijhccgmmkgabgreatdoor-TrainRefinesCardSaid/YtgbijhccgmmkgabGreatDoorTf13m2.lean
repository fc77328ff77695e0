import Derived.Test.YtgbijhccgmmkgabGreatDoorTy13
import Derived.Test.YtgbijhccgmmkgabGreatDoorProg
set_option linter.unusedVariables false
set_option linter.unusedSimpArgs false
set_option maxRecDepth 100000
set_option maxHeartbeats 0
noncomputable section
namespace Go.Cn
open Go.Proofs
/-! ### quadform/quadformref24.SameList -/
abbrev F9.R : Type := Bool
def F9.encR (r : F9.R) : CV := CV.bool r
def F9.t0 : List Item := enter (dsc 10000 [false] [.code (bodyOf Tryz.f45)])
inductive F9.O0 where
  | ret (r : F9.R)
  | x0
def F9.P0 (o : F9.O0) (Q : QT) : Prop := match o with
  | .ret r => ∀ y K, Frz K y (F9.encR r) → Q y K
  | .x0 => Goes Tryz.prog 45 Tryz.f45.ntmps 0 1 (List.drop 3 F9.t0) ⟨[], [], 0⟩ Q
def F9.l0_b (k : Nat) (s0 : (List ua0) → (List ua0) → Int → Int → Option F9.O0) (v0 : List ua0) (v1 : List ua0) (v2 : Int) (v3 : Int) : Option F9.O0 := (if v3 < v2 then ((elt v0 v3).bind fun (a0 : ua0) => ((elt v1 v3).bind fun (a1 : ua0) => (if a0 = a1 then (s0 v0 v1 v2 (IntKind.wrap .i64 (v3 + (1 : Int)))) else (some (.ret (false)))))) else (some (.x0)))
theorem F9.l0_b_eq (v0 : List ua0) (v1 : List ua0) (v2 : Int) (v3 : Int) (a0 : ua0) (a1 : ua0) (R : RT) (L : LT) : hw Tryz.prog noCall Tryz.f45 0 1 10000 F9.t0 (.run 1 (.br [14] (.run 4 (.val (CV.rop [CV.int .i64 a0.Exp, CV.int .i64 a0.Dim, CV.int .i64 a0.Sign, CV.bool a0.Odd, CV.int .i64 a0.Oddity] 0) (.run 3 (.val (CV.rop [CV.int .i64 a1.Exp, CV.int .i64 a1.Dim, CV.int .i64 a1.Sign, CV.bool a1.Odd, CV.int .i64 a1.Oddity] 0) (.run 1 (.val (CV.bool (!(decide (a0 = a1)))) (.br [24] (.run 1 .nil) (.run 2 (.cut [0, 1, 12, 13] [] [] 0 (.stp 1)))))))))) (.cut [] [] [] 0 (.stp 1)))) ⟨[(0, CV.ro 5 (List.map zC v0) none), (1, CV.ro 5 (List.map zC v1) none), (12, CV.int .i64 v2), (13, CV.int .i64 v3)], [], 0⟩ R L = ((decide (v3 < v2)) = (decide (v3 < v2)) ∧ BIf (decide (v3 < v2)) (fun _ => (cindexAddr Tryz.prog 22 (CV.ro 5 (List.map zC v0) none) (CV.int .i64 v3) = some (CV.rop [CV.int .i64 a0.Exp, CV.int .i64 a0.Dim, CV.int .i64 a0.Sign, CV.bool a0.Odd, CV.int .i64 a0.Oddity] 0) ∧ (cindexAddr Tryz.prog 22 (CV.ro 5 (List.map zC v1) none) (CV.int .i64 v3) = some (CV.rop [CV.int .i64 a1.Exp, CV.int .i64 a1.Dim, CV.int .i64 a1.Sign, CV.bool a1.Odd, CV.int .i64 a1.Oddity] 0) ∧ (cbin Tryz.prog .neq 45 (CV.agg [CV.int .i64 a0.Exp, CV.int .i64 a0.Dim, CV.int .i64 a0.Sign, CV.bool a0.Odd, CV.int .i64 a0.Oddity]) (CV.agg [CV.int .i64 a1.Exp, CV.int .i64 a1.Dim, CV.int .i64 a1.Sign, CV.bool a1.Odd, CV.int .i64 a1.Oddity]) = some (CV.bool (!(decide (a0 = a1)))) ∧ ((!(decide (a0 = a1))) = (!(decide (a0 = a1))) ∧ BIf (!(decide (a0 = a1))) (fun _ => R (CV.bool false) [] 0) (fun _ => (ub0 (CV.ro 5 (List.map zC v0) none) ∧ (ub0 (CV.ro 5 (List.map zC v1) none) ∧ L F9.t0 ⟨[(0, CV.ro 5 (List.map zC v0) none), (1, CV.ro 5 (List.map zC v1) none), (12, CV.int .i64 v2), (13, CV.int .i64 (IntKind.wrap .i64 (v3 + (1 : Int))))], [], 0⟩)))))))) (fun _ => L (List.drop 3 F9.t0) ⟨[], [], 0⟩)) := by kernel_rfl
theorem F9.l0_b_ok (k : Nat) (s0 : (List ua0) → (List ua0) → Int → Int → Option F9.O0) (hs0 : ∀ (v0 : List ua0) (v1 : List ua0) (v2 : Int) (v3 : Int) (o : F9.O0), s0 v0 v1 v2 v3 = some o → ∀ Q, F9.P0 o Q → Goes Tryz.prog 45 Tryz.f45.ntmps 0 1 F9.t0 ⟨[(0, CV.ro 5 (List.map zC v0) none), (1, CV.ro 5 (List.map zC v1) none), (12, CV.int .i64 v2), (13, CV.int .i64 v3)], [], 0⟩ Q) (v0 : List ua0) (v1 : List ua0) (v2 : Int) (v3 : Int) (o : F9.O0) (h : F9.l0_b k s0 v0 v1 v2 v3 = some o) (Q : QT) (hp : F9.P0 o Q) : Goes Tryz.prog 45 Tryz.f45.ntmps 0 1 F9.t0 ⟨[(0, CV.ro 5 (List.map zC v0) none), (1, CV.ro 5 (List.map zC v1) none), (12, CV.int .i64 v2), (13, CV.int .i64 v3)], [], 0⟩ Q := by
  unfold F9.l0_b at h
  obtain ⟨a0, ea0⟩ : ∃ x, x = vl (elt v0 v3) := ⟨_, rfl⟩
  obtain ⟨a1, ea1⟩ : ∃ x, x = vl (elt v1 v3) := ⟨_, rfl⟩
  refine ub3 ua6 Tryz.func45 10000 _ (Nat.zero_le _) (Eq.mpr (F9.l0_b_eq v0 v1 v2 v3 a0 a1 _ _) ?_)
  exact ⟨rfl, (bifD h (fun _ h => (bndK ea0 h (fun ha0 h => ⟨(ud0 Tryz.underlying22 sz45 ha0), (bndK ea1 h (fun ha1 h => ⟨(ud0 Tryz.underlying22 sz45 ha1), ⟨(eq45_neq (a0) (a1)), ⟨rfl, (bifNot (bifD h (fun _ h => ⟨(ua2 ua7), ⟨(ua2 ua7), ⟨lR rfl, (hs0 v0 v1 v2 (IntKind.wrap .i64 (v3 + (1 : Int))) _ h Q hp)⟩⟩⟩) (fun _ h => ⟨lR rfl, (by cases h; exact hp _ _ (ua4 ua5))⟩)))⟩⟩⟩))⟩))) (fun _ h => ⟨lR rfl, (by cases h; exact hp)⟩))⟩
def F9.l0 (k : Nat) : Nat → (List ua0) → (List ua0) → Int → Int → Option F9.O0
  | 0, _, _, _, _ => none
  | j + 1, v0, v1, v2, v3 => F9.l0_b k (F9.l0 k j) v0 v1 v2 v3
theorem F9.g0_ok (k : Nat) : ∀ (j : Nat), (∀ (v0 : List ua0) (v1 : List ua0) (v2 : Int) (v3 : Int) (o : F9.O0), F9.l0 k j v0 v1 v2 v3 = some o → ∀ Q, F9.P0 o Q → Goes Tryz.prog 45 Tryz.f45.ntmps 0 1 F9.t0 ⟨[(0, CV.ro 5 (List.map zC v0) none), (1, CV.ro 5 (List.map zC v1) none), (12, CV.int .i64 v2), (13, CV.int .i64 v3)], [], 0⟩ Q) := by
  intro j
  induction j with
  | zero => exact fun v0 v1 v2 v3 o h => (by simp [F9.l0] at h)
  | succ j ih => exact fun v0 v1 v2 v3 o h Q hp => F9.l0_b_ok k (F9.l0 k j) ih v0 v1 v2 v3 o h Q hp
theorem F9.l0_ok (k j : Nat) : ∀ (v0 : List ua0) (v1 : List ua0) (v2 : Int) (v3 : Int) (o : F9.O0), F9.l0 k j v0 v1 v2 v3 = some o → ∀ Q, F9.P0 o Q → Goes Tryz.prog 45 Tryz.f45.ntmps 0 1 F9.t0 ⟨[(0, CV.ro 5 (List.map zC v0) none), (1, CV.ro 5 (List.map zC v1) none), (12, CV.int .i64 v2), (13, CV.int .i64 v3)], [], 0⟩ Q := (F9.g0_ok k j)
def F9.c0 (k : Nat) : Option F9.R := (some (true))
theorem F9.c0_eq (R : RT) (L : LT) : hw Tryz.prog noCall Tryz.f45 0 1 10000 (List.drop 3 F9.t0) (.run 1 .nil) ⟨[], [], 0⟩ R L = R (CV.bool true) [] 0 := by kernel_rfl
theorem F9.c0_ok (k : Nat) (o : F9.R) (h : F9.c0 k   = some o) (Q : QT) (hp : ∀ y K, Frz K y (F9.encR o) → Q y K) : Goes Tryz.prog 45 Tryz.f45.ntmps 0 1 (List.drop 3 F9.t0) ⟨[], [], 0⟩ Q := by
  unfold F9.c0 at h
  refine ub3 ua6 Tryz.func45 10000 _ (Nat.zero_le _) (Eq.mpr (F9.c0_eq  _ _) ?_)
  exact ⟨lR rfl, (by cases h; exact hp _ _ (ua4 ua5))⟩
def F9.b (k : Nat) (p0 : List ua0) (p1 : List ua0) : Option F9.R := (if ((p0).length : Int) = ((p1).length : Int) then ((F9.l0 k k p0 p1 ((p0).length : Int) (0 : Int)).bind fun o => match o with | .ret r => some r | .x0 => F9.c0 k  ) else (some (false)))
theorem F9.b_eq (p0 : List ua0) (p1 : List ua0) (R : RT) (L : LT) : hw Tryz.prog noCall Tryz.f45 0 1 10000 [.code (bodyOf Tryz.f45)] (.run 2 (.val (CV.int .i64 ((p0).length : Int)) (.run 1 (.val (CV.int .i64 ((p1).length : Int)) (.run 1 (.br [10] (.run 1 .nil) (.run 1 (.val (CV.int .i64 ((p0).length : Int)) (.run 1 (.cut [0, 1, 12, 13] [] [] 0 (.stp 2))))))))))) ⟨argTm [CV.ro 5 (List.map zC p0) none, CV.ro 5 (List.map zC p1) none] 0 [], [], 0⟩ R L = (clen Tryz.prog #[22] (CV.ro 5 (List.map zC p0) none) = some (CV.int .i64 ((p0).length : Int)) ∧ (clen Tryz.prog #[22] (CV.ro 5 (List.map zC p1) none) = some (CV.int .i64 ((p1).length : Int)) ∧ ((((p0).length : Int) != ((p1).length : Int)) = (((p0).length : Int) != ((p1).length : Int)) ∧ BIf (((p0).length : Int) != ((p1).length : Int)) (fun _ => R (CV.bool false) [] 0) (fun _ => (clen Tryz.prog #[22] (CV.ro 5 (List.map zC p0) none) = some (CV.int .i64 ((p0).length : Int)) ∧ (ub0 (CV.ro 5 (List.map zC p0) none) ∧ (ub0 (CV.ro 5 (List.map zC p1) none) ∧ L F9.t0 ⟨[(0, CV.ro 5 (List.map zC p0) none), (1, CV.ro 5 (List.map zC p1) none), (12, CV.int .i64 ((p0).length : Int)), (13, CV.int .i64 (0 : Int))], [], 0⟩))))))) := by kernel_rfl
theorem F9.b_ok (k : Nat) (p0 : List ua0) (p1 : List ua0) (o : F9.R) (h : F9.b k  p0 p1 = some o) (Q : QT) (hp : ∀ y K, Frz K y (F9.encR o) → Q y K) : Goes Tryz.prog 45 Tryz.f45.ntmps 0 1 [.code (bodyOf Tryz.f45)] ⟨argTm [CV.ro 5 (List.map zC p0) none, CV.ro 5 (List.map zC p1) none] 0 [], [], 0⟩ Q := by
  unfold F9.b at h
  refine ub3 ua6 Tryz.func45 10000 _ (Nat.zero_le _) (Eq.mpr (F9.b_eq p0 p1 _ _) ?_)
  exact ⟨(ud1 rfl Tryz.underlying22), ⟨(ud1 rfl Tryz.underlying22), ⟨rfl, (bifN h (fun _ h => ⟨lR rfl, (by cases h; exact hp _ _ (ua4 ua5))⟩) (fun _ h => ⟨(ud1 rfl Tryz.underlying22), ⟨(ua2 ua7), ⟨(ua2 ua7), ⟨lR rfl, (bndL h (fun q hq h => (F9.l0_ok k k p0 p1 ((p0).length : Int) (0 : Int) q hq Q (by cases q with | ret r => (cases h; exact hp) | x0 => exact F9.c0_ok k    _ h Q hp))))⟩⟩⟩⟩))⟩⟩⟩
def F9 (k : Nat) (p0 : List ua0) (p1 : List ua0) : Option F9.R := F9.b k p0 p1
theorem F10 (k : Nat) (p0 : List ua0) (p1 : List ua0) (r : F9.R) (h : F9 k p0 p1 = some r) : PC Tryz.prog 45 [CV.ro 5 (List.map zC p0) none, CV.ro 5 (List.map zC p1) none] (F9.encR r) :=
  uj7 Tryz.func45 (c := bodyOf Tryz.f45) (top := 1) rfl rfl ⟨(ua2 ua7), (ua2 ua7), trivial⟩ ua5 (F9.b_ok k p0 p1 r h _ fun y K hf => hf)
/-! ### quadform/quadformref26.Same -/
abbrev F14.R : Type := Bool
def F14.encR (r : F14.R) : CV := CV.bool r
def F14.b (k : Nat) (p0Pr : Int) (p0L : List ua0) (p1P : Int) (p1L : List ua0) : Option F14.R := (if p0Pr = p1P then ((F9 k p0L p1L).bind fun (a0 : Bool) => (some (a0))) else (some (false)))
theorem F14.b_eq (p0Pr : Int) (p0L : List ua0) (p1P : Int) (p1L : List ua0) (a0 : Bool) (R : RT) (L : LT) : hw Tryz.prog noCall Tryz.f18 0 2 10000 [.code (bodyOf Tryz.f18)] (.run 9 (.br [9, 10] (.run 8 (.new false (CV.bool a0) [] 2 (.run 2 .nil))) (.run 6 .nil))) ⟨argTm [CV.agg [CV.int .i64 p0Pr, CV.ro 5 (List.map zC p0L) none], CV.agg [CV.int .i64 p1P, CV.ro 5 (List.map zC p1L) none]] 0 [], [], 0⟩ R L = ((p0Pr == p1P) = (p0Pr == p1P) ∧ (p0Pr == p1P) = (p0Pr == p1P) ∧ BIf (p0Pr == p1P) (fun _ => (ub8 Tryz.prog 45 [CV.ro 5 (List.map zC p0L) none, CV.ro 5 (List.map zC p1L) none] [(1, [CV.int .i64 p1P, CV.ro 5 (List.map zC p1L) none]), (0, [CV.int .i64 p0Pr, CV.ro 5 (List.map zC p0L) none])] 2 0 (CV.bool a0) [(1, [CV.int .i64 p1P, CV.ro 5 (List.map zC p1L) none]), (0, [CV.int .i64 p0Pr, CV.ro 5 (List.map zC p0L) none])] 2 ∧ R (CV.bool a0) [(1, [CV.int .i64 p1P, CV.ro 5 (List.map zC p1L) none]), (0, [CV.int .i64 p0Pr, CV.ro 5 (List.map zC p0L) none])] 2)) (fun _ => R (CV.bool false) [(1, [CV.int .i64 p1P, CV.ro 5 (List.map zC p1L) none]), (0, [CV.int .i64 p0Pr, CV.ro 5 (List.map zC p0L) none])] 2)) := by kernel_rfl
theorem F14.b_ok (k : Nat) (p0Pr : Int) (p0L : List ua0) (p1P : Int) (p1L : List ua0) (o : F14.R) (h : F14.b k  p0Pr p0L p1P p1L = some o) (Q : QT) (hp : ∀ y K, Frz K y (F14.encR o) → Q y K) : Goes Tryz.prog 18 Tryz.f18.ntmps 0 2 [.code (bodyOf Tryz.f18)] ⟨argTm [CV.agg [CV.int .i64 p0Pr, CV.ro 5 (List.map zC p0L) none], CV.agg [CV.int .i64 p1P, CV.ro 5 (List.map zC p1L) none]] 0 [], [], 0⟩ Q := by
  unfold F14.b at h
  obtain ⟨a0, ea0⟩ : ∃ x, x = vl (F9 k p0L p1L) := ⟨_, rfl⟩
  refine ub3 ua6 Tryz.func18 10000 _ (Nat.zero_le _) (Eq.mpr (F14.b_eq p0Pr p0L p1P p1L a0 _ _) ?_)
  exact ⟨rfl, ⟨rfl, (bifE h (fun _ h => (bndK ea0 h (fun ha0 h => ⟨(ub4 False Tryz.func45 rfl rfl (F10 k p0L p1L _ ha0) ⟨(ua3 (ua2 ua7)), (ua3 (ua2 ua7)), trivial⟩ trivial (fun h => h.elim) rfl), ⟨lR rfl, (by cases h; exact hp _ _ (ua4 ua5))⟩⟩))) (fun _ h => ⟨lR rfl, (by cases h; exact hp _ _ (ua4 ua5))⟩))⟩⟩
def F14 (k : Nat) (p0Pr : Int) (p0L : List ua0) (p1P : Int) (p1L : List ua0) : Option F14.R := F14.b k p0Pr p0L p1P p1L
theorem F15 (k : Nat) (p0Pr : Int) (p0L : List ua0) (p1P : Int) (p1L : List ua0) (r : F14.R) (h : F14 k p0Pr p0L p1P p1L = some r) : PC Tryz.prog 18 [CV.agg [CV.int .i64 p0Pr, CV.ro 5 (List.map zC p0L) none], CV.agg [CV.int .i64 p1P, CV.ro 5 (List.map zC p1L) none]] (F14.encR r) :=
  uj7 Tryz.func18 (c := bodyOf Tryz.f18) (top := 2) rfl rfl ⟨(uc1 ⟨ua1, (ua2 ua7), trivial⟩), (uc1 ⟨ua1, (ua2 ua7), trivial⟩), trivial⟩ ua5 (F14.b_ok k p0Pr p0L p1P p1L r h _ fun y K hf => hf)
end Go.Cn
