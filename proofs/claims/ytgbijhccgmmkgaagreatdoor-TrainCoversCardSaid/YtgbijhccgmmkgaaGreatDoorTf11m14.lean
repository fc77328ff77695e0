import Derived.Test.YtgbijhccgmmkgaaGreatDoorTy11
import Derived.Test.YtgbijhccgmmkgaaGreatDoorTf11m12
import Derived.Test.YtgbijhccgmmkgaaGreatDoorTf11m3
import Derived.Test.YtgbijhccgmmkgaaGreatDoorTf11m8
import Derived.Test.YtgbijhccgmmkgaaGreatDoorProg
set_option linter.unusedVariables false
set_option maxRecDepth 100000
set_option maxHeartbeats 0
noncomputable section
namespace Go.Cn
open Go.Proofs
/-! ### quadform/quadformscene.OddPrime -/
abbrev F30.R : Type := Int
def F30.encR (r : F30.R) : CV := CV.int .i64 r
def F30.b (k : Nat) (p0 : Int) : Option F30.R := ((elt [(3 : Int), (5 : Int), (7 : Int), (11 : Int), (13 : Int), (17 : Int), (19 : Int), (23 : Int)] (Int.tmod p0 (8 : Int))).bind fun (a0 : Int) => (some (a0)))
def F30 (k : Nat) (p0 : Int) : Option F30.R := F30.b k p0
/-! ### (quadform/quadformscene.Symbol).Local -/
abbrev F32.R : Type := Int × List Constituent
def F32.encR (r : F32.R) : CV := CV.agg [CV.int .i64 r.1, CV.ro 5 (List.map enc_Constituent r.2) none]
def F32.b (k : Nat) (p0_Prime : Int) (p0_Parts : List A5u8) (p1 : Int) : Option F32.R := ((F30 k p0_Prime).bind fun (a0 : Int) => ((F35 k p0_Prime p0_Parts p1 false).bind fun (a1 : List Constituent) => (some (a0, a1))))
def F32 (k : Nat) (p0_Prime : Int) (p0_Parts : List A5u8) (p1 : Int) : Option F32.R := F32.b k p0_Prime p0_Parts p1
/-! ### quadform/quadformref26.Canonical -/
abbrev F13.R : Type := Int × List Constituent × Bool
def F13.encR (r : F13.R) : CV := CV.tup [CV.agg [CV.int .i64 r.1, CV.ro 5 (List.map enc_Constituent r.2.1) none], CV.bool r.2.2]
def F13.t0 : List Item := enter (dsc 10000 [false] [.code (bodyOf Tryz.f67)])
abbrev F13.O0 : Type := Int × Int × (List Constituent)
def F13.P0 (o : F13.O0) (Q : CV → CHeap → Prop) : Prop := match o with | (v0, v1, v2) => Goes Tryz.prog 67 Tryz.f67.ntmps 0 3 (List.drop 3 F13.t0) ⟨[(2, CV.ptr 0 0), (4, CV.ptr 1 0)], [(0, [CV.int .i64 v0, CV.ro 1 [] (some 0)]), (1, [CV.int .i64 v1, CV.ro 5 (List.map enc_Constituent v2) none])], 2⟩ Q
def F13.l0_b (k : Nat) (s0 : Int → Int → (List Constituent) → Int → Option F13.O0) (v0 : Int) (v1 : Int) (v2 : List Constituent) (v3 : Int) : Option F13.O0 := (if v3 ≥ (1 : Int) then ((elt v2 v3).bind fun (a1 : Constituent) => (if a1.Sign = (-1 : Int) then ((F19 k v2 v3).bind fun (a2 : Bool) => (if a2 = true then ((F28 k v1 v2 v3).bind fun (a3 : Int × List Constituent) => (s0 v0 a3.1 a3.2 (IntKind.wrap .i64 (v3 - (1 : Int))))) else (s0 v0 v1 v2 (IntKind.wrap .i64 (v3 - (1 : Int)))))) else (s0 v0 v1 v2 (IntKind.wrap .i64 (v3 - (1 : Int)))))) else (some (v0, v1, v2)))
def F13.l0 (k : Nat) : Nat → Int → Int → (List Constituent) → Int → Option F13.O0
  | 0, _, _, _, _ => none
  | j + 1, v0, v1, v2, v3 => F13.l0_b k (F13.l0 k j) v0 v1 v2 v3
def F13.c0 (k : Nat) (v0 : Int) (v1 : Int) (v2 : List Constituent) : Option F13.R := (some (v1, v2, true))
def F13.b (k : Nat) (p0_Prime : Int) (p0_List : List Constituent) : Option F13.R := ((F16 k p0_Prime p0_List).bind fun (a0 : Int × List Constituent × Bool) => (if a0.2.2 = true then ((F13.l0 k k (0 : Int) a0.1 a0.2.1 (IntKind.wrap .i64 (((a0.2.1).length : Int) - (1 : Int)))).bind fun (v0, v1, v2) => F13.c0 k  v0 v1 v2) else (some ((0 : Int), [], false))))
def F13 (k : Nat) (p0_Prime : Int) (p0_List : List Constituent) : Option F13.R := F13.b k p0_Prime p0_List
/-! ### (quadform/quadformscene.Symbol).Any -/
abbrev F31.R : Type := Int × List Constituent
def F31.encR (r : F31.R) : CV := CV.agg [CV.int .i64 r.1, CV.ro 5 (List.map enc_Constituent r.2) none]
def F31.c0_t : List Item := List.drop 1 (dsc 10000 [] [.code (bodyOf Tryz.f44)])
def F31.c1_t : List Item := List.drop 1 (dsc 10000 [false] F31.c0_t)
def F31.c1 (k : Nat) (v0 : Int) (v1 : List A5u8) (v2 : Int) (v3 : Int) (v4 : Int) (v5 : Bool) : Option F31.R := (if v5 = true then ((F33 k v0 v1 v3).bind fun (a1 : Int × List Constituent) => (some (a1.1, a1.2))) else (if v4 = (5 : Int) then ((F33 k v0 v1 v3).bind fun (a2 : Int × List Constituent) => ((F16 k a2.1 a2.2).bind fun (a3 : Int × List Constituent × Bool) => (some (a3.1, a3.2.1)))) else ((F33 k v0 v1 v3).bind fun (a4 : Int × List Constituent) => ((F13 k a4.1 a4.2).bind fun (a5 : Int × List Constituent × Bool) => (some (a5.1, a5.2.1))))))
def F31.c0 (k : Nat) (v0 : Int) (v1 : List A5u8) (v2 : Int) (v3 : Int) (v4 : Int) (v5 : Bool) : Option F31.R := (if v5 = true then ((F32 k v0 v1 v3).bind fun (a0 : Int × List Constituent) => (some (a0.1, a0.2))) else (if v4 = (3 : Int) then (F31.c1 k  v0 v1 v2 v3 v4 true) else (F31.c1 k  v0 v1 v2 v3 v4 (v4 == (4 : Int)))))
def F31.b (k : Nat) (p0_Prime : Int) (p0_Parts : List A5u8) (p1 : Int) : Option F31.R := (if (Int.tmod p0_Prime (8 : Int)) = (0 : Int) then (F31.c0 k  p0_Prime p0_Parts (0 : Int) p1 (Int.tmod p0_Prime (8 : Int)) true) else (if (Int.tmod p0_Prime (8 : Int)) = (1 : Int) then (F31.c0 k  p0_Prime p0_Parts (0 : Int) p1 (Int.tmod p0_Prime (8 : Int)) true) else (F31.c0 k  p0_Prime p0_Parts (0 : Int) p1 (Int.tmod p0_Prime (8 : Int)) ((Int.tmod p0_Prime (8 : Int)) == (2 : Int)))))
def F31 (k : Nat) (p0_Prime : Int) (p0_Parts : List A5u8) (p1 : Int) : Option F31.R := F31.b k p0_Prime p0_Parts p1
/-! ### quadform/quadformscene.Bent -/
abbrev F29.R : Type := Int × List Constituent
def F29.encR (r : F29.R) : CV := CV.agg [CV.int .i64 r.1, CV.ro 5 (List.map enc_Constituent r.2) none]
def F29.b (k : Nat) (p0_Prime : Int) (p0_List : List Constituent) (p1 : Int) (p2 : Int) (p3 : Int) : Option F29.R := (if (p0_List).length = 0 then (some (p0_Prime, [])) else (if (p0_List).length < 1073741824 then (if ((p0_List).length : Int) = (0 : Int) then (some (p0_Prime, p0_List)) else (if ¬ ((p0_List).length : Int) = 0 then ((elt p0_List (Int.tmod (IntKind.wrap .i64 p1) ((p0_List).length : Int))).bind fun (a3 : Constituent) => (if (Int.tmod p2 (8 : Int)) = (0 : Int) then (some (p0_Prime, (List.set p0_List ((Int.tmod (IntKind.wrap .i64 p1) ((p0_List).length : Int))).toNat (Constituent.mk (IntKind.wrap .i64 (a3.Exp + (IntKind.wrap .i64 (Int.tmod p3 (3 : Int))))) a3.Dim a3.Sign a3.Odd a3.Oddity)))) else (if (Int.tmod p2 (8 : Int)) = (1 : Int) then (some (p0_Prime, (List.set p0_List ((Int.tmod (IntKind.wrap .i64 p1) ((p0_List).length : Int))).toNat (Constituent.mk a3.Exp (IntKind.wrap .i64 (a3.Dim + (IntKind.wrap .i64 (Int.tmod p3 (3 : Int))))) a3.Sign a3.Odd a3.Oddity)))) else (if (Int.tmod p2 (8 : Int)) = (2 : Int) then (some (p0_Prime, (List.set p0_List ((Int.tmod (IntKind.wrap .i64 p1) ((p0_List).length : Int))).toNat (Constituent.mk a3.Exp a3.Dim (IntKind.wrap .i64 (Int.tmod p3 (3 : Int))) a3.Odd a3.Oddity)))) else (if (Int.tmod p2 (8 : Int)) = (3 : Int) then (some (p0_Prime, (List.set p0_List ((Int.tmod (IntKind.wrap .i64 p1) ((p0_List).length : Int))).toNat (Constituent.mk a3.Exp a3.Dim a3.Sign (!a3.Odd) a3.Oddity)))) else (if (Int.tmod p2 (8 : Int)) = (4 : Int) then (some (p0_Prime, (List.set p0_List ((Int.tmod (IntKind.wrap .i64 p1) ((p0_List).length : Int))).toNat (Constituent.mk a3.Exp a3.Dim a3.Sign a3.Odd (IntKind.wrap .i64 (a3.Oddity + (IntKind.wrap .i64 (Int.tmod p3 (9 : Int))))))))) else (if (Int.tmod p2 (8 : Int)) = (5 : Int) then (some (p0_Prime, (List.set p0_List ((Int.tmod (IntKind.wrap .i64 p1) ((p0_List).length : Int))).toNat (Constituent.mk a3.Exp a3.Dim a3.Sign a3.Odd (IntKind.wrap .i64 (a3.Oddity + (IntKind.wrap .i64 (Int.tmod p3 (9 : Int))))))))) else (if (Int.tmod p2 (8 : Int)) = (6 : Int) then (some ((IntKind.wrap .i64 (p0_Prime + (IntKind.wrap .i64 (Int.tmod p3 (2 : Int))))), p0_List)) else (some (p0_Prime, p0_List)))))))))) else none)) else none))
def F29 (k : Nat) (p0_Prime : Int) (p0_List : List Constituent) (p1 : Int) (p2 : Int) (p3 : Int) : Option F29.R := F29.b k p0_Prime p0_List p1 p2 p3
/-! ### quadform/quadformlaw27.some -/
abbrev F12.R : Type := Int × List Constituent
def F12.encR (r : F12.R) : CV := CV.agg [CV.int .i64 r.1, CV.ro 5 (List.map enc_Constituent r.2) none]
def F12.b (k : Nat) (p0_Prime : Int) (p0_List : List Constituent) (p1_Prime : Int) (p1_Parts : List A5u8) (p2 : Int) (p3 : Int) (p4 : Int) (p5 : Bool) : Option F12.R := (if p5 = true then ((F31 k p1_Prime p1_Parts (8 : Int)).bind fun (a0 : Int × List Constituent) => ((F29 k a0.1 a0.2 p2 p3 p4).bind fun (a1 : Int × List Constituent) => (some (a1.1, a1.2)))) else (some (p0_Prime, p0_List)))
def F12 (k : Nat) (p0_Prime : Int) (p0_List : List Constituent) (p1_Prime : Int) (p1_Parts : List A5u8) (p2 : Int) (p3 : Int) (p4 : Int) (p5 : Bool) : Option F12.R := F12.b k p0_Prime p0_List p1_Prime p1_Parts p2 p3 p4 p5
end Go.Cn
