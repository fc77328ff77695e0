import Derived.Test.YtgbijhccgmmkgaaGreatDoorTy11
import Derived.Test.YtgbijhccgmmkgaaGreatDoorTf11m8
import Derived.Test.YtgbijhccgmmkgaaGreatDoorProg
set_option linter.unusedVariables false
set_option maxRecDepth 100000
set_option maxHeartbeats 0
noncomputable section
namespace Go.Cn
open Go.Proofs
/-! ### quadform/quadformref26.partOf -/
abbrev F27.R : Type := List Int
def F27.encR (r : F27.R) : CV := CV.ro 1 (List.map enc_i64 r) none
def F27.t0 : List Item := enter (dsc 10000 [] [.code (bodyOf Tryz.f71)])
def F27.t1 : List Item := enter (dsc 10000 [true] F27.t0)
inductive F27.O0 where
  | ret (r : F27.R)
  | x0
def F27.P0 (o : F27.O0) (Q : CV → CHeap → Prop) : Prop := match o with
  | .ret r => ∀ y K, Frz K y (F27.encR r) → Q y K
  | .x0 => Goes Tryz.prog 71 Tryz.f71.ntmps 0 1 (List.drop 3 F27.t0) ⟨[], [], 0⟩ Q
inductive F27.O1 where
  | ret (r : F27.R)
  | x0 (v0 : Int) (v1 : List (List Int)) (v2 : Int) (v3 : Int)
def F27.P1 (o : F27.O1) (Q : CV → CHeap → Prop) : Prop := match o with
  | .ret r => ∀ y K, Frz K y (F27.encR r) → Q y K
  | .x0 v0 v1 v2 v3 => Goes Tryz.prog 71 Tryz.f71.ntmps 0 1 (List.drop 3 F27.t1) ⟨[(1, CV.int .i64 v0), (10, CV.ro 1 (List.map enc_Li64 v1) none), (11, CV.int .i64 v2), (12, CV.int .i64 v3)], [], 0⟩ Q
def F27.l1_b (k : Nat) (s0 : Int → (List Int) → (List (List Int)) → Int → Int → (List Int) → Int → Int → Option F27.O1) (v0 : Int) (v1 : List Int) (v2 : List (List Int)) (v3 : Int) (v4 : Int) (v5 : List Int) (v6 : Int) (v7 : Int) : Option F27.O1 := (if v7 < v6 then ((elt v5 v7).bind fun (a2 : Int) => (if a2 = v0 then (some (.ret (v1))) else (s0 v0 v1 v2 v3 v4 v5 v6 (IntKind.wrap .i64 (v7 + (1 : Int)))))) else (some (.x0 v0 v2 v3 v4)))
def F27.l1 (k : Nat) : Nat → Int → (List Int) → (List (List Int)) → Int → Int → (List Int) → Int → Int → Option F27.O1
  | 0, _, _, _, _, _, _, _, _ => none
  | j + 1, v0, v1, v2, v3, v4, v5, v6, v7 => F27.l1_b k (F27.l1 k j) v0 v1 v2 v3 v4 v5 v6 v7
def F27.c1 (k : Nat) (s0 : Int → (List (List Int)) → Int → Int → Option F27.O0) (v0 : Int) (v1 : List (List Int)) (v2 : Int) (v3 : Int) : Option F27.O0 := (s0 v0 v1 v2 (IntKind.wrap .i64 (v3 + (1 : Int))))
def F27.l0_b (k : Nat) (s0 : Int → (List (List Int)) → Int → Int → Option F27.O0) (v0 : Int) (v1 : List (List Int)) (v2 : Int) (v3 : Int) : Option F27.O0 := (if v3 < v2 then ((elt v1 v3).bind fun (a1 : List Int) => ((F27.l1 k k v0 a1 v1 v2 v3 a1 ((a1).length : Int) (0 : Int)).bind fun o => match o with | .ret r => some (.ret r) | .x0 v0 v1 v2 v3 => F27.c1 k s0 v0 v1 v2 v3)) else (some (.x0)))
def F27.l0 (k : Nat) : Nat → Int → (List (List Int)) → Int → Int → Option F27.O0
  | 0, _, _, _, _ => none
  | j + 1, v0, v1, v2, v3 => F27.l0_b k (F27.l0 k j) v0 v1 v2 v3
def F27.c0 (k : Nat) : Option F27.R := (some ([]))
def F27.b (k : Nat) (p0 : List Constituent) (p1 : Int) : Option F27.R := ((F20 k p0).bind fun (a0 : List (List Int)) => ((F27.l0 k k p1 a0 ((a0).length : Int) (0 : Int)).bind fun o => match o with | .ret r => some r | .x0 => F27.c0 k  ))
def F27 (k : Nat) (p0 : List Constituent) (p1 : Int) : Option F27.R := F27.b k p0 p1
/-! ### quadform/quadformref26.bad -/
abbrev F24.R : Type := Bool
def F24.encR (r : F24.R) : CV := CV.bool r
def F24.b (k : Nat) (p0 : List Constituent) (p1 : List Int) : Option F24.R := (if ((p1).length : Int) = (2 : Int) then ((elt p1 (0 : Int)).bind fun (a0 : Int) => ((elt p0 a0).bind fun (a1 : Constituent) => (if a1.Dim = (1 : Int) then ((elt p1 (1 : Int)).bind fun (a2 : Int) => ((elt p0 a2).bind fun (a3 : Constituent) => (if a3.Dim = (1 : Int) then ((F21 k p0 p1).bind fun (a4 : Int) => (some (((Int.tmod a4 (4 : Int)) == (0 : Int))))) else (some (false))))) else (some (false))))) else (some (false)))
def F24 (k : Nat) (p0 : List Constituent) (p1 : List Int) : Option F24.R := F24.b k p0 p1
/-! ### quadform/quadformref26.Linked -/
abbrev F19.R : Type := Bool
def F19.encR (r : F19.R) : CV := CV.bool r
def F19.b (k : Nat) (p0 : List Constituent) (p1 : Int) : Option F19.R := ((elt p0 (IntKind.wrap .i64 (p1 - (1 : Int)))).bind fun (a0 : Constituent) => ((elt p0 p1).bind fun (a1 : Constituent) => (if (IntKind.wrap .i64 (a1.Exp - a0.Exp)) = (1 : Int) then (if a0.Odd = a1.Odd then (if a0.Odd = true then ((F27 k p0 p1).bind fun (a2 : List Int) => ((F24 k p0 a2).bind fun (a3 : Bool) => (some ((!a3))))) else (some (false))) else (some (true))) else (if (IntKind.wrap .i64 (a1.Exp - a0.Exp)) = (2 : Int) then (if a0.Odd = true then (some (a1.Odd)) else (some (false))) else (some (false))))))
def F19 (k : Nat) (p0 : List Constituent) (p1 : Int) : Option F19.R := F19.b k p0 p1
/-! ### quadform/quadformref26.step -/
abbrev F28.R : Type := Int × List Constituent
def F28.encR (r : F28.R) : CV := CV.agg [CV.int .i64 r.1, CV.ro 5 (List.map enc_Constituent r.2) none]
def F28.c0_t : List Item := dsr 10000 [] 2 [.code (bodyOf Tryz.f55)]
def F28.c1_t : List Item := dsr 10000 [] 2 [.code (bodyOf Tryz.f55)]
def F28.c2_t : List Item := List.drop 1 (dsc 10000 [] F28.c1_t)
def F28.c0 (k : Nat) (v0 : Int) (v1 : List Constituent) (v2 : Int) (v3 : Int) (v4 : Int) : Option F28.R := none
def F28.c2 (k : Nat) (v0 : Int) (v1 : Int) (v2 : List Constituent) (v3 : List Int) (v4 : List Int) : Option F28.R := (if ((v4).length : Int) > (0 : Int) then (if ((v3).length : Int) = (0 : Int) then ((elt v4 (0 : Int)).bind fun (a9 : Int) => ((elt v2 a9).bind fun (a10 : Constituent) => (some (v1, (List.set v2 (a9).toNat (Constituent.mk a10.Exp a10.Dim a10.Sign a10.Odd (Int.tmod (IntKind.wrap .i64 (a10.Oddity + (4 : Int))) (8 : Int)))))))) else ((elt v3 (0 : Int)).bind fun (a11 : Int) => ((elt v4 (0 : Int)).bind fun (a12 : Int) => (if a11 = a12 then (some (v1, v2)) else ((elt v2 a12).bind fun (a13 : Constituent) => (some (v1, (List.set v2 (a12).toNat (Constituent.mk a13.Exp a13.Dim a13.Sign a13.Odd (Int.tmod (IntKind.wrap .i64 (a13.Oddity + (4 : Int))) (8 : Int))))))))))) else (some (v1, v2)))
def F28.c1 (k : Nat) (v0 : Int) (v1 : List Constituent) (v2 : Int) (v3 : Int) (v4 : List Constituent) (v5 : Int) : Option F28.R := ((elt v4 v5).bind fun (a1 : Constituent) => ((elt v4 (IntKind.wrap .i64 (v5 - (1 : Int)))).bind fun (a2 : Constituent) => ((elt (List.set v4 (v5).toNat (Constituent.mk a1.Exp a1.Dim (IntKind.wrap .i64 ((0 : Int) - a1.Sign)) a1.Odd a1.Oddity)) (IntKind.wrap .i64 (v5 - (1 : Int)))).bind fun (a3 : Constituent) => ((F27 k v1 (IntKind.wrap .i64 (v5 - (1 : Int)))).bind fun (a4 : List Int) => ((F27 k v1 v5).bind fun (a5 : List Int) => (if ((a4).length : Int) > (0 : Int) then ((elt a4 (0 : Int)).bind fun (a6 : Int) => ((elt v4 a6).bind fun (a7 : Constituent) => ((elt (List.set (List.set v4 (v5).toNat (Constituent.mk a1.Exp a1.Dim (IntKind.wrap .i64 ((0 : Int) - a1.Sign)) a1.Odd a1.Oddity)) ((IntKind.wrap .i64 (v5 - (1 : Int)))).toNat (Constituent.mk a3.Exp a3.Dim (IntKind.wrap .i64 ((0 : Int) - a3.Sign)) a3.Odd a3.Oddity)) a6).bind fun (a8 : Constituent) => (F28.c2 k  v2 v3 (List.set (List.set (List.set v4 (v5).toNat (Constituent.mk a1.Exp a1.Dim (IntKind.wrap .i64 ((0 : Int) - a1.Sign)) a1.Odd a1.Oddity)) ((IntKind.wrap .i64 (v5 - (1 : Int)))).toNat (Constituent.mk a3.Exp a3.Dim (IntKind.wrap .i64 ((0 : Int) - a3.Sign)) a3.Odd a3.Oddity)) (a6).toNat (Constituent.mk a8.Exp a8.Dim a8.Sign a8.Odd (Int.tmod (IntKind.wrap .i64 (a8.Oddity + (4 : Int))) (8 : Int)))) a4 a5)))) else (F28.c2 k  v2 v3 (List.set (List.set v4 (v5).toNat (Constituent.mk a1.Exp a1.Dim (IntKind.wrap .i64 ((0 : Int) - a1.Sign)) a1.Odd a1.Oddity)) ((IntKind.wrap .i64 (v5 - (1 : Int)))).toNat (Constituent.mk a3.Exp a3.Dim (IntKind.wrap .i64 ((0 : Int) - a3.Sign)) a3.Odd a3.Oddity)) a4 a5)))))))
def F28.b (k : Nat) (p0_Prime : Int) (p0_List : List Constituent) (p1 : Int) : Option F28.R := ((F25 k p0_Prime p0_List).bind fun (a0 : F25.R) => match a0 with | .s0 a0_0 => (F28.c0 k  p0_Prime p0_List (0 : Int) a0_0 p1) | .s1 a0_0 a0_1 => (F28.c1 k  p0_Prime p0_List (0 : Int) a0_0 a0_1 p1))
def F28 (k : Nat) (p0_Prime : Int) (p0_List : List Constituent) (p1 : Int) : Option F28.R := F28.b k p0_Prime p0_List p1
end Go.Cn
