import Derived.Test.YtgbijhccgmmkgaaGreatDoorTy11
import Derived.Test.YtgbijhccgmmkgaaGreatDoorTf11m2
import Derived.Test.YtgbijhccgmmkgaaGreatDoorProg
set_option linter.unusedVariables false
set_option maxRecDepth 100000
set_option maxHeartbeats 0
noncomputable section
namespace Go.Cn
open Go.Proofs
/-! ### quadform/quadformref26.order -/
abbrev F26.R : Type := Bool
def F26.encR (r : F26.R) : CV := CV.bool r
def F26.t0 : List Item := enter (dsc 10000 [] [.code (bodyOf Tryz.f64)])
inductive F26.O0 where
  | ret (r : F26.R)
  | x0 (v0 : Int)
def F26.P0 (o : F26.O0) (Q : CV → CHeap → Prop) : Prop := match o with
  | .ret r => ∀ y K, Frz K y (F26.encR r) → Q y K
  | .x0 v0 => Goes Tryz.prog 64 Tryz.f64.ntmps 0 1 (List.drop 3 F26.t0) ⟨[(3, CV.int .i64 v0)], [], 0⟩ Q
def F26.l0_b (k : Nat) (s0 : (List Constituent) → Int → (List Constituent) → Int → Int → Option F26.O0) (v0 : List Constituent) (v1 : Int) (v2 : List Constituent) (v3 : Int) (v4 : Int) : Option F26.O0 := (if v4 < v3 then ((elt v2 v4).bind fun (a0 : Constituent) => (if a0.Exp < (0 : Int) then (some (.ret (false))) else (if a0.Exp > (60 : Int) then (some (.ret (false))) else (if v4 > (0 : Int) then ((elt v0 (IntKind.wrap .i64 (v4 - (1 : Int)))).bind fun (a1 : Constituent) => (if a0.Exp ≤ a1.Exp then (some (.ret (false))) else (if a0.Sign = (1 : Int) then (if a0.Dim < (1 : Int) then (some (.ret (false))) else (if a0.Dim > (IntKind.wrap .i64 ((8 : Int) - v1)) then (some (.ret (false))) else (s0 v0 (IntKind.wrap .i64 (v1 + a0.Dim)) v2 v3 (IntKind.wrap .i64 (v4 + (1 : Int)))))) else (if a0.Sign = (-1 : Int) then (if a0.Dim < (1 : Int) then (some (.ret (false))) else (if a0.Dim > (IntKind.wrap .i64 ((8 : Int) - v1)) then (some (.ret (false))) else (s0 v0 (IntKind.wrap .i64 (v1 + a0.Dim)) v2 v3 (IntKind.wrap .i64 (v4 + (1 : Int)))))) else (some (.ret (false))))))) else (if a0.Sign = (1 : Int) then (if a0.Dim < (1 : Int) then (some (.ret (false))) else (if a0.Dim > (IntKind.wrap .i64 ((8 : Int) - v1)) then (some (.ret (false))) else (s0 v0 (IntKind.wrap .i64 (v1 + a0.Dim)) v2 v3 (IntKind.wrap .i64 (v4 + (1 : Int)))))) else (if a0.Sign = (-1 : Int) then (if a0.Dim < (1 : Int) then (some (.ret (false))) else (if a0.Dim > (IntKind.wrap .i64 ((8 : Int) - v1)) then (some (.ret (false))) else (s0 v0 (IntKind.wrap .i64 (v1 + a0.Dim)) v2 v3 (IntKind.wrap .i64 (v4 + (1 : Int)))))) else (some (.ret (false))))))))) else (some (.x0 v1)))
def F26.l0 (k : Nat) : Nat → (List Constituent) → Int → (List Constituent) → Int → Int → Option F26.O0
  | 0, _, _, _, _, _ => none
  | j + 1, v0, v1, v2, v3, v4 => F26.l0_b k (F26.l0 k j) v0 v1 v2 v3 v4
def F26.c0 (k : Nat) (v0 : Int) : Option F26.R := (some ((decide (v0 > (0 : Int)))))
def F26.b (k : Nat) (p0 : List Constituent) : Option F26.R := ((F26.l0 k k p0 (0 : Int) p0 ((p0).length : Int) (0 : Int)).bind fun o => match o with | .ret r => some r | .x0 v0 => F26.c0 k  v0)
def F26 (k : Nat) (p0 : List Constituent) : Option F26.R := F26.b k p0
/-! ### quadform/quadformref26.Valid2 -/
abbrev F23.R : Type := Bool
def F23.encR (r : F23.R) : CV := CV.bool r
def F23.t0 : List Item := enter (dsc 10000 [false] [.code (bodyOf Tryz.f40)])
inductive F23.O0 where
  | ret (r : F23.R)
  | x0
def F23.P0 (o : F23.O0) (Q : CV → CHeap → Prop) : Prop := match o with
  | .ret r => ∀ y K, Frz K y (F23.encR r) → Q y K
  | .x0 => Goes Tryz.prog 40 Tryz.f40.ntmps 0 1 (List.drop 3 F23.t0) ⟨[], [], 0⟩ Q
def F23.l0_b (k : Nat) (s0 : (List Constituent) → Int → Int → Option F23.O0) (v0 : List Constituent) (v1 : Int) (v2 : Int) : Option F23.O0 := (if v2 < v1 then ((elt v0 v2).bind fun (a1 : Constituent) => ((F18 k a1.Exp a1.Dim a1.Sign a1.Odd a1.Oddity).bind fun (a2 : Bool) => (if a2 = true then (s0 v0 v1 (IntKind.wrap .i64 (v2 + (1 : Int)))) else (some (.ret (false)))))) else (some (.x0)))
def F23.l0 (k : Nat) : Nat → (List Constituent) → Int → Int → Option F23.O0
  | 0, _, _, _ => none
  | j + 1, v0, v1, v2 => F23.l0_b k (F23.l0 k j) v0 v1 v2
def F23.c0 (k : Nat) : Option F23.R := (some (true))
def F23.b (k : Nat) (p0_Prime : Int) (p0_List : List Constituent) : Option F23.R := (if p0_Prime = (2 : Int) then ((F26 k p0_List).bind fun (a0 : Bool) => (if a0 = true then ((F23.l0 k k p0_List ((p0_List).length : Int) (0 : Int)).bind fun o => match o with | .ret r => some r | .x0 => F23.c0 k  ) else (some (false)))) else (some (false)))
def F23 (k : Nat) (p0_Prime : Int) (p0_List : List Constituent) : Option F23.R := F23.b k p0_Prime p0_List
end Go.Cn
