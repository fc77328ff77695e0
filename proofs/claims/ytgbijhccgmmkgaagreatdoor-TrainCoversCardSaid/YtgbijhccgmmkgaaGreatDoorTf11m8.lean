import Derived.Test.YtgbijhccgmmkgaaGreatDoorTy11
import Derived.Test.YtgbijhccgmmkgaaGreatDoorTf11m5
import Derived.Test.YtgbijhccgmmkgaaGreatDoorProg
set_option linter.unusedVariables false
set_option maxRecDepth 100000
set_option maxHeartbeats 0
noncomputable section
namespace Go.Cn
open Go.Proofs
/-! ### quadform/quadformref26.copied -/
inductive F25.R where
  | s0 (v0 : Int)
  | s1 (v0 : Int) (v1 : List Constituent)
  deriving Inhabited
def F25.Qr (r : F25.R) (Q : CV → CHeap → Prop) : Prop := match r with
  | .s0 v0 => Q (CV.agg [CV.int .i64 v0, CV.ro 1 [] (some 0)]) [(0, [CV.int .i64 v0, CV.ro 1 [] (some 0)])]
  | .s1 v0 v1 => Q (CV.agg [CV.int .i64 v0, CV.slice 5 1 0 (v1).length none]) [(0, [CV.int .i64 v0, CV.slice 5 1 0 (v1).length none]), (1, (List.flatMap enc_Constituent v1))]
def F25.c0_t : List Item := List.drop 0 (dsc 10000 [] [.code (bodyOf Tryz.f48)])
def F25.c1_t : List Item := List.drop 0 (dsc 10000 [] [.code (bodyOf Tryz.f48)])
def F25.c0 (k : Nat) (v0 : Int) : Option F25.R := (some (.s0 v0))
def F25.c1 (k : Nat) (v0 : Int) (v1 : List Constituent) : Option F25.R := (some (.s1 v0 v1))
def F25.b (k : Nat) (p0_Prime : Int) (p0_List : List Constituent) : Option F25.R := (if (p0_List).length = 0 then (F25.c0 k  p0_Prime) else (if (p0_List).length < 1073741824 then (F25.c1 k  p0_Prime p0_List) else none))
def F25 (k : Nat) (p0_Prime : Int) (p0_List : List Constituent) : Option F25.R := F25.b k p0_Prime p0_List
def F25.LCs (p0_Prime : Int) (p0_List : List Constituent) (r : F25.R) : Prop := match r with
  | .s0 v0 => LC Tryz.prog 48 [CV.agg [CV.int .i64 p0_Prime, CV.ro 5 (List.map enc_Constituent p0_List) none]] (CV.agg [CV.int .i64 v0, CV.ro 1 [] (some 0)]) [(0, [CV.int .i64 v0, CV.ro 1 [] (some 0)])] 3
  | .s1 v0 v1 => LC Tryz.prog 48 [CV.agg [CV.int .i64 p0_Prime, CV.ro 5 (List.map enc_Constituent p0_List) none]] (CV.agg [CV.int .i64 v0, CV.slice 5 1 0 (v1).length none]) [(0, [CV.int .i64 v0, CV.slice 5 1 0 (v1).length none]), (1, (List.flatMap enc_Constituent v1))] 3
/-! ### quadform/quadformref26.Parts -/
abbrev F20.R : Type := List (List Int)
def F20.encR (r : F20.R) : CV := CV.ro 1 (List.map enc_Li64 r) none
def F20.t0 : List Item := enter (dsc 10000 [] [.code (bodyOf Tryz.f49)])
inductive F20.O0 where
  | x0
  | x1 (v0 : List (List Int)) (v1 : Int)
  | x2 (v0 : List (List Int)) (v1 : List Int)
def F20.P0 (o : F20.O0) (Q : CV → CHeap → Prop) : Prop := match o with
  | .x0 => Goes Tryz.prog 49 Tryz.f49.ntmps 0 6 (List.drop 3 F20.t0) ⟨[(3, CV.ro 1 [] (some 0))], [], 0⟩ Q
  | .x1 v0 v1 => Goes Tryz.prog 49 Tryz.f49.ntmps 0 6 (List.drop 3 F20.t0) ⟨[(3, CV.slice 1 0 0 ((v0).length + 1) none)], [(0, (List.flatMap enc_Li64 v0 ++ [CV.slice 1 1 0 1 (some 1)])), (1, [CV.int .i64 v1])], 2⟩ Q
  | .x2 v0 v1 => Goes Tryz.prog 49 Tryz.f49.ntmps 0 6 (List.drop 3 F20.t0) ⟨[(3, CV.slice 1 0 0 ((v0).length + 1) none)], [(0, (List.flatMap enc_Li64 v0 ++ [CV.slice 1 1 0 (v1).length none])), (1, (List.flatMap enc_i64 v1))], 2⟩ Q
def F20.l0_b (k : Nat) (s0 : (List Constituent) → (List Constituent) → Int → Int → Option F20.O0) (s1 : (List (List Int)) → Int → (List Constituent) → (List Constituent) → Int → Int → Option F20.O0) (s2 : (List (List Int)) → (List Int) → (List Constituent) → (List Constituent) → Int → Int → Option F20.O0) (v0 : List Constituent) (v1 : List Constituent) (v2 : Int) (v3 : Int) : Option F20.O0 := (if v3 < v2 then ((elt v1 v3).bind fun (a0 : Constituent) => (if a0.Odd = true then (if v3 > (0 : Int) then ((elt v0 (IntKind.wrap .i64 (v3 - (1 : Int)))).bind fun (a1 : Constituent) => (if a1.Odd = true then (if a1.Exp = (IntKind.wrap .i64 (a0.Exp - (1 : Int))) then none else (s1 [] v3 v0 v1 v2 (IntKind.wrap .i64 (v3 + (1 : Int))))) else (s1 [] v3 v0 v1 v2 (IntKind.wrap .i64 (v3 + (1 : Int)))))) else (s1 [] v3 v0 v1 v2 (IntKind.wrap .i64 (v3 + (1 : Int))))) else (s0 v0 v1 v2 (IntKind.wrap .i64 (v3 + (1 : Int)))))) else (some (.x0)))
def F20.l0b_b (k : Nat) (s0 : (List Constituent) → (List Constituent) → Int → Int → Option F20.O0) (s1 : (List (List Int)) → Int → (List Constituent) → (List Constituent) → Int → Int → Option F20.O0) (s2 : (List (List Int)) → (List Int) → (List Constituent) → (List Constituent) → Int → Int → Option F20.O0) (v0 : List (List Int)) (v1 : Int) (v2 : List Constituent) (v3 : List Constituent) (v4 : Int) (v5 : Int) : Option F20.O0 := (if v5 < v4 then ((elt v3 v5).bind fun (a2 : Constituent) => (if a2.Odd = true then (if v5 > (0 : Int) then ((elt v2 (IntKind.wrap .i64 (v5 - (1 : Int)))).bind fun (a3 : Constituent) => (if a3.Odd = true then (if a3.Exp = (IntKind.wrap .i64 (a2.Exp - (1 : Int))) then (if (v0).length < 1073741824 then (s2 v0 [v1, v5] v2 v3 v4 (IntKind.wrap .i64 (v5 + (1 : Int)))) else none) else (if (v0).length < 1073741824 then (s1 (v0 ++ [[v1]]) v5 v2 v3 v4 (IntKind.wrap .i64 (v5 + (1 : Int)))) else none)) else (if (v0).length < 1073741824 then (s1 (v0 ++ [[v1]]) v5 v2 v3 v4 (IntKind.wrap .i64 (v5 + (1 : Int)))) else none))) else (if (v0).length < 1073741824 then (s1 (v0 ++ [[v1]]) v5 v2 v3 v4 (IntKind.wrap .i64 (v5 + (1 : Int)))) else none)) else (s1 v0 v1 v2 v3 v4 (IntKind.wrap .i64 (v5 + (1 : Int)))))) else (some (.x1 v0 v1)))
def F20.l0c_b (k : Nat) (s0 : (List Constituent) → (List Constituent) → Int → Int → Option F20.O0) (s1 : (List (List Int)) → Int → (List Constituent) → (List Constituent) → Int → Int → Option F20.O0) (s2 : (List (List Int)) → (List Int) → (List Constituent) → (List Constituent) → Int → Int → Option F20.O0) (v0 : List (List Int)) (v1 : List Int) (v2 : List Constituent) (v3 : List Constituent) (v4 : Int) (v5 : Int) : Option F20.O0 := (if v5 < v4 then ((elt v3 v5).bind fun (a8 : Constituent) => (if a8.Odd = true then (if v5 > (0 : Int) then ((elt v2 (IntKind.wrap .i64 (v5 - (1 : Int)))).bind fun (a9 : Constituent) => (if a9.Odd = true then (if a9.Exp = (IntKind.wrap .i64 (a8.Exp - (1 : Int))) then (if (v0).length < 1073741824 then (if (v1).length < 1073741824 then (s2 v0 (v1 ++ [v5]) v2 v3 v4 (IntKind.wrap .i64 (v5 + (1 : Int)))) else none) else none) else (if (v0).length < 1073741824 then (s1 (v0 ++ [v1]) v5 v2 v3 v4 (IntKind.wrap .i64 (v5 + (1 : Int)))) else none)) else (if (v0).length < 1073741824 then (s1 (v0 ++ [v1]) v5 v2 v3 v4 (IntKind.wrap .i64 (v5 + (1 : Int)))) else none))) else (if (v0).length < 1073741824 then (s1 (v0 ++ [v1]) v5 v2 v3 v4 (IntKind.wrap .i64 (v5 + (1 : Int)))) else none)) else (s2 v0 v1 v2 v3 v4 (IntKind.wrap .i64 (v5 + (1 : Int)))))) else (some (.x2 v0 v1)))
mutual
def F20.l0 (k : Nat) : Nat → (List Constituent) → (List Constituent) → Int → Int → Option F20.O0
  | 0, _, _, _, _ => none
  | j + 1, v0, v1, v2, v3 => F20.l0_b k (F20.l0 k j) (F20.l0b k j) (F20.l0c k j) v0 v1 v2 v3
def F20.l0b (k : Nat) : Nat → (List (List Int)) → Int → (List Constituent) → (List Constituent) → Int → Int → Option F20.O0
  | 0, _, _, _, _, _, _ => none
  | j + 1, v0, v1, v2, v3, v4, v5 => F20.l0b_b k (F20.l0 k j) (F20.l0b k j) (F20.l0c k j) v0 v1 v2 v3 v4 v5
def F20.l0c (k : Nat) : Nat → (List (List Int)) → (List Int) → (List Constituent) → (List Constituent) → Int → Int → Option F20.O0
  | 0, _, _, _, _, _, _ => none
  | j + 1, v0, v1, v2, v3, v4, v5 => F20.l0c_b k (F20.l0 k j) (F20.l0b k j) (F20.l0c k j) v0 v1 v2 v3 v4 v5
end
def F20.c0 (k : Nat) : Option F20.R := (some ([]))
def F20.c1 (k : Nat) (v0 : List (List Int)) (v1 : Int) : Option F20.R := (some ((v0 ++ [[v1]])))
def F20.c2 (k : Nat) (v0 : List (List Int)) (v1 : List Int) : Option F20.R := (some ((v0 ++ [v1])))
def F20.b (k : Nat) (p0 : List Constituent) : Option F20.R := ((F20.l0 k k p0 p0 ((p0).length : Int) (0 : Int)).bind fun o => match o with | .x0 => F20.c0 k   | .x1 v0 v1 => F20.c1 k  v0 v1 | .x2 v0 v1 => F20.c2 k  v0 v1)
def F20 (k : Nat) (p0 : List Constituent) : Option F20.R := F20.b k p0
/-! ### quadform/quadformref26.Total -/
abbrev F21.R : Type := Int
def F21.encR (r : F21.R) : CV := CV.int .i64 r
def F21.t0 : List Item := enter (dsc 10000 [] [.code (bodyOf Tryz.f50)])
abbrev F21.O0 : Type := Int
def F21.P0 (o : F21.O0) (Q : CV → CHeap → Prop) : Prop := match o with | v0 => Goes Tryz.prog 50 Tryz.f50.ntmps 0 1 (List.drop 3 F21.t0) ⟨[(5, CV.int .i64 v0)], [], 0⟩ Q
def F21.l0_b (k : Nat) (s0 : (List Constituent) → Int → (List Int) → Int → Int → Option F21.O0) (v0 : List Constituent) (v1 : Int) (v2 : List Int) (v3 : Int) (v4 : Int) : Option F21.O0 := (if v4 < v3 then ((elt v2 v4).bind fun (a0 : Int) => ((elt v0 a0).bind fun (a1 : Constituent) => (s0 v0 (IntKind.wrap .i64 (v1 + a1.Oddity)) v2 v3 (IntKind.wrap .i64 (v4 + (1 : Int)))))) else (some (v1)))
def F21.l0 (k : Nat) : Nat → (List Constituent) → Int → (List Int) → Int → Int → Option F21.O0
  | 0, _, _, _, _, _ => none
  | j + 1, v0, v1, v2, v3, v4 => F21.l0_b k (F21.l0 k j) v0 v1 v2 v3 v4
def F21.c0 (k : Nat) (v0 : Int) : Option F21.R := (some ((Int.tmod v0 (8 : Int))))
def F21.b (k : Nat) (p0 : List Constituent) (p1 : List Int) : Option F21.R := ((F21.l0 k k p0 (0 : Int) p1 ((p1).length : Int) (0 : Int)).bind fun v0 => F21.c0 k  v0)
def F21 (k : Nat) (p0 : List Constituent) (p1 : List Int) : Option F21.R := F21.b k p0 p1
/-! ### quadform/quadformref26.Fuse -/
abbrev F16.R : Type := Int × List Constituent × Bool
def F16.encR (r : F16.R) : CV := CV.tup [CV.agg [CV.int .i64 r.1, CV.ro 5 (List.map enc_Constituent r.2.1) none], CV.bool r.2.2]
def F16.c0_t : List Item := dsr 10000 [false] 3 [.code (bodyOf Tryz.f23)]
def F16.t0 : List Item := enter (dsc 10000 [] F16.c0_t)
def F16.t1 : List Item := enter (dsc 10000 [true] F16.t0)
def F16.c1_t : List Item := dsr 10000 [false] 3 [.code (bodyOf Tryz.f23)]
inductive F16.O0 where
  | x0 (v0 : Int) (v1 : Int)
  | x1 (v0 : Int) (v1 : Int) (v2 : List Constituent)
def F16.P0 (o : F16.O0) (Q : CV → CHeap → Prop) : Prop := match o with
  | .x0 v0 v1 => Goes Tryz.prog 23 Tryz.f23.ntmps 0 6 (List.drop 3 F16.t0) ⟨[(2, CV.ptr 0 0), (4, CV.ptr 1 0)], [(0, [CV.int .i64 v0, CV.ro 1 [] (some 0)]), (1, [CV.int .i64 v1, CV.ro 1 [] (some 0)])], 2⟩ Q
  | .x1 v0 v1 v2 => Goes Tryz.prog 23 Tryz.f23.ntmps 0 6 (List.drop 3 F16.t0) ⟨[(2, CV.ptr 0 0), (4, CV.ptr 1 0)], [(0, [CV.int .i64 v0, CV.ro 1 [] (some 0)]), (1, [CV.int .i64 v1, CV.slice 5 2 0 (v2).length none]), (2, (List.flatMap enc_Constituent v2))], 3⟩ Q
inductive F16.O1 where
  | x0 (v0 : Int) (v1 : List Constituent) (v2 : Int) (v3 : Int) (v4 : List Int) (v5 : List (List Int)) (v6 : Int) (v7 : Int)
  | x1 (v0 : Int) (v1 : List Constituent) (v2 : Int) (v3 : Int) (v4 : List Constituent) (v5 : List Int) (v6 : List (List Int)) (v7 : Int) (v8 : Int)
def F16.P1 (o : F16.O1) (Q : CV → CHeap → Prop) : Prop := match o with
  | .x0 v0 v1 v2 v3 v4 v5 v6 v7 => Goes Tryz.prog 23 Tryz.f23.ntmps 0 6 (List.drop 3 F16.t1) ⟨[(1, CV.ptr 0 0), (2, CV.ptr 1 0), (4, CV.ptr 2 0), (6, CV.ro 1 (List.map enc_i64 v4) none), (17, CV.ro 1 (List.map enc_Li64 v5) none), (18, CV.int .i64 v6), (19, CV.int .i64 v7)], [(0, [CV.int .i64 v0, CV.ro 5 (List.map enc_Constituent v1) none]), (1, [CV.int .i64 v2, CV.ro 1 [] (some 0)]), (2, [CV.int .i64 v3, CV.ro 1 [] (some 0)])], 3⟩ Q
  | .x1 v0 v1 v2 v3 v4 v5 v6 v7 v8 => Goes Tryz.prog 23 Tryz.f23.ntmps 0 6 (List.drop 3 F16.t1) ⟨[(1, CV.ptr 0 0), (2, CV.ptr 1 0), (4, CV.ptr 2 0), (6, CV.ro 1 (List.map enc_i64 v5) none), (17, CV.ro 1 (List.map enc_Li64 v6) none), (18, CV.int .i64 v7), (19, CV.int .i64 v8)], [(0, [CV.int .i64 v0, CV.ro 5 (List.map enc_Constituent v1) none]), (1, [CV.int .i64 v2, CV.ro 1 [] (some 0)]), (2, [CV.int .i64 v3, CV.slice 5 3 0 (v4).length none]), (3, (List.flatMap enc_Constituent v4))], 4⟩ Q
def F16.l1_b (k : Nat) (s0 : Int → (List Constituent) → Int → Int → (List Int) → (List (List Int)) → Int → Int → (List Int) → Int → Int → Option F16.O1) (s1 : Int → (List Constituent) → Int → Int → (List Constituent) → (List Int) → (List (List Int)) → Int → Int → (List Int) → Int → Int → Option F16.O1) (v0 : Int) (v1 : List Constituent) (v2 : Int) (v3 : Int) (v4 : List Int) (v5 : List (List Int)) (v6 : Int) (v7 : Int) (v8 : List Int) (v9 : Int) (v10 : Int) : Option F16.O1 := (if v10 < v9 then ((elt v8 v10).bind fun (a6 : Int) => none) else (some (.x0 v0 v1 v2 v3 v4 v5 v6 v7)))
def F16.l1b_b (k : Nat) (s0 : Int → (List Constituent) → Int → Int → (List Int) → (List (List Int)) → Int → Int → (List Int) → Int → Int → Option F16.O1) (s1 : Int → (List Constituent) → Int → Int → (List Constituent) → (List Int) → (List (List Int)) → Int → Int → (List Int) → Int → Int → Option F16.O1) (v0 : Int) (v1 : List Constituent) (v2 : Int) (v3 : Int) (v4 : List Constituent) (v5 : List Int) (v6 : List (List Int)) (v7 : Int) (v8 : Int) (v9 : List Int) (v10 : Int) (v11 : Int) : Option F16.O1 := (if v11 < v10 then ((elt v9 v11).bind fun (a7 : Int) => ((elt v4 a7).bind fun (a8 : Constituent) => (s1 v0 v1 v2 v3 (List.set v4 (a7).toNat (Constituent.mk a8.Exp a8.Dim a8.Sign a8.Odd (0 : Int))) v5 v6 v7 v8 v9 v10 (IntKind.wrap .i64 (v11 + (1 : Int)))))) else (some (.x1 v0 v1 v2 v3 v4 v5 v6 v7 v8)))
mutual
def F16.l1 (k : Nat) : Nat → Int → (List Constituent) → Int → Int → (List Int) → (List (List Int)) → Int → Int → (List Int) → Int → Int → Option F16.O1
  | 0, _, _, _, _, _, _, _, _, _, _, _ => none
  | j + 1, v0, v1, v2, v3, v4, v5, v6, v7, v8, v9, v10 => F16.l1_b k (F16.l1 k j) (F16.l1b k j) v0 v1 v2 v3 v4 v5 v6 v7 v8 v9 v10
def F16.l1b (k : Nat) : Nat → Int → (List Constituent) → Int → Int → (List Constituent) → (List Int) → (List (List Int)) → Int → Int → (List Int) → Int → Int → Option F16.O1
  | 0, _, _, _, _, _, _, _, _, _, _, _, _ => none
  | j + 1, v0, v1, v2, v3, v4, v5, v6, v7, v8, v9, v10, v11 => F16.l1b_b k (F16.l1 k j) (F16.l1b k j) v0 v1 v2 v3 v4 v5 v6 v7 v8 v9 v10 v11
end
def F16.c4 (k : Nat) (s0 : Int → (List Constituent) → Int → Int → (List (List Int)) → Int → Int → Option F16.O0) (s1 : Int → (List Constituent) → Int → Int → (List Constituent) → (List (List Int)) → Int → Int → Option F16.O0) (v0 : Int) (v1 : List Constituent) (v2 : Int) (v3 : Int) (v4 : List Int) (v5 : List (List Int)) (v6 : Int) (v7 : Int) : Option F16.O0 := ((elt v4 (0 : Int)).bind fun (a9 : Int) => ((F21 k v1 v4).bind fun (a10 : Int) => none))
def F16.c5 (k : Nat) (s0 : Int → (List Constituent) → Int → Int → (List (List Int)) → Int → Int → Option F16.O0) (s1 : Int → (List Constituent) → Int → Int → (List Constituent) → (List (List Int)) → Int → Int → Option F16.O0) (v0 : Int) (v1 : List Constituent) (v2 : Int) (v3 : Int) (v4 : List Constituent) (v5 : List Int) (v6 : List (List Int)) (v7 : Int) (v8 : Int) : Option F16.O0 := ((elt v5 (0 : Int)).bind fun (a11 : Int) => ((F21 k v1 v5).bind fun (a12 : Int) => ((elt v4 a11).bind fun (a13 : Constituent) => (s1 v0 v1 v2 v3 (List.set v4 (a11).toNat (Constituent.mk a13.Exp a13.Dim a13.Sign a13.Odd a12)) v6 v7 (IntKind.wrap .i64 (v8 + (1 : Int)))))))
def F16.l0_b (k : Nat) (s0 : Int → (List Constituent) → Int → Int → (List (List Int)) → Int → Int → Option F16.O0) (s1 : Int → (List Constituent) → Int → Int → (List Constituent) → (List (List Int)) → Int → Int → Option F16.O0) (v0 : Int) (v1 : List Constituent) (v2 : Int) (v3 : Int) (v4 : List (List Int)) (v5 : Int) (v6 : Int) : Option F16.O0 := (if v6 < v5 then ((elt v4 v6).bind fun (a4 : List Int) => ((F16.l1 k k v0 v1 v2 v3 a4 v4 v5 v6 a4 ((a4).length : Int) (0 : Int)).bind fun o => match o with | .x0 v0 v1 v2 v3 v4 v5 v6 v7 => F16.c4 k s0 s1 v0 v1 v2 v3 v4 v5 v6 v7 | .x1 v0 v1 v2 v3 v4 v5 v6 v7 v8 => F16.c5 k s0 s1 v0 v1 v2 v3 v4 v5 v6 v7 v8)) else (some (.x0 v2 v3)))
def F16.l0b_b (k : Nat) (s0 : Int → (List Constituent) → Int → Int → (List (List Int)) → Int → Int → Option F16.O0) (s1 : Int → (List Constituent) → Int → Int → (List Constituent) → (List (List Int)) → Int → Int → Option F16.O0) (v0 : Int) (v1 : List Constituent) (v2 : Int) (v3 : Int) (v4 : List Constituent) (v5 : List (List Int)) (v6 : Int) (v7 : Int) : Option F16.O0 := (if v7 < v6 then ((elt v5 v7).bind fun (a5 : List Int) => ((F16.l1b k k v0 v1 v2 v3 v4 a5 v5 v6 v7 a5 ((a5).length : Int) (0 : Int)).bind fun o => match o with | .x0 v0 v1 v2 v3 v4 v5 v6 v7 => F16.c4 k s0 s1 v0 v1 v2 v3 v4 v5 v6 v7 | .x1 v0 v1 v2 v3 v4 v5 v6 v7 v8 => F16.c5 k s0 s1 v0 v1 v2 v3 v4 v5 v6 v7 v8)) else (some (.x1 v2 v3 v4)))
mutual
def F16.l0 (k : Nat) : Nat → Int → (List Constituent) → Int → Int → (List (List Int)) → Int → Int → Option F16.O0
  | 0, _, _, _, _, _, _, _ => none
  | j + 1, v0, v1, v2, v3, v4, v5, v6 => F16.l0_b k (F16.l0 k j) (F16.l0b k j) v0 v1 v2 v3 v4 v5 v6
def F16.l0b (k : Nat) : Nat → Int → (List Constituent) → Int → Int → (List Constituent) → (List (List Int)) → Int → Int → Option F16.O0
  | 0, _, _, _, _, _, _, _, _ => none
  | j + 1, v0, v1, v2, v3, v4, v5, v6, v7 => F16.l0b_b k (F16.l0 k j) (F16.l0b k j) v0 v1 v2 v3 v4 v5 v6 v7
end
def F16.c2 (k : Nat) (v0 : Int) (v1 : Int) : Option F16.R := (some (v1, [], true))
def F16.c3 (k : Nat) (v0 : Int) (v1 : Int) (v2 : List Constituent) : Option F16.R := (some (v1, v2, true))
def F16.c0 (k : Nat) (v0 : Int) (v1 : List Constituent) (v2 : Int) (v3 : Int) : Option F16.R := ((F20 k v1).bind fun (a2 : List (List Int)) => ((F16.l0 k k v0 v1 v2 v3 a2 ((a2).length : Int) (0 : Int)).bind fun o => match o with | .x0 v0 v1 => F16.c2 k  v0 v1 | .x1 v0 v1 v2 => F16.c3 k  v0 v1 v2))
def F16.c1 (k : Nat) (v0 : Int) (v1 : List Constituent) (v2 : Int) (v3 : Int) (v4 : List Constituent) : Option F16.R := ((F20 k v1).bind fun (a3 : List (List Int)) => ((F16.l0b k k v0 v1 v2 v3 v4 a3 ((a3).length : Int) (0 : Int)).bind fun o => match o with | .x0 v0 v1 => F16.c2 k  v0 v1 | .x1 v0 v1 v2 => F16.c3 k  v0 v1 v2))
def F16.b (k : Nat) (p0_Prime : Int) (p0_List : List Constituent) : Option F16.R := ((F23 k p0_Prime p0_List).bind fun (a0 : Bool) => (if a0 = true then ((F25 k p0_Prime p0_List).bind fun (a1 : F25.R) => match a1 with | .s0 a1_0 => (F16.c0 k  p0_Prime p0_List (0 : Int) a1_0) | .s1 a1_0 a1_1 => (F16.c1 k  p0_Prime p0_List (0 : Int) a1_0 a1_1)) else (some ((0 : Int), [], false))))
def F16 (k : Nat) (p0_Prime : Int) (p0_List : List Constituent) : Option F16.R := F16.b k p0_Prime p0_List
end Go.Cn
