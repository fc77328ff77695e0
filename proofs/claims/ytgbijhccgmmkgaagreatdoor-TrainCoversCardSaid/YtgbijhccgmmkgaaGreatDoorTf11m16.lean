import Derived.Test.YtgbijhccgmmkgaaGreatDoorTy11
import Derived.Test.YtgbijhccgmmkgaaGreatDoorTf11m12
import Derived.Test.YtgbijhccgmmkgaaGreatDoorTf11m5
import Derived.Test.YtgbijhccgmmkgaaGreatDoorTf11m8
import Derived.Test.YtgbijhccgmmkgaaGreatDoorProg
set_option linter.unusedVariables false
set_option maxRecDepth 100000
set_option maxHeartbeats 0
noncomputable section
namespace Go.Cn
open Go.Proofs
/-! ### quadform/quadformref26.Fused -/
abbrev F17.R : Type := Bool
def F17.encR (r : F17.R) : CV := CV.bool r
def F17.t0 : List Item := enter (dsc 10000 [false] [.code (bodyOf Tryz.f53)])
def F17.t1 : List Item := enter (dsc 10000 [] (List.drop 3 F17.t0))
def F17.t2 : List Item := enter (dsc 10000 [true] F17.t1)
inductive F17.O0 where
  | ret (r : F17.R)
  | x0 (v0 : Int) (v1 : List Constituent)
def F17.P0 (o : F17.O0) (Q : CV → CHeap → Prop) : Prop := match o with
  | .ret r => ∀ y K, Frz K y (F17.encR r) → Q y K
  | .x0 v0 v1 => Goes Tryz.prog 53 Tryz.f53.ntmps 0 2 (List.drop 3 F17.t0) ⟨[(1, CV.ptr 0 0)], [(0, [CV.int .i64 v0, CV.ro 5 (List.map enc_Constituent v1) none])], 1⟩ Q
def F17.l0_b (k : Nat) (s0 : Int → (List Constituent) → (List Constituent) → Int → Int → Option F17.O0) (v0 : Int) (v1 : List Constituent) (v2 : List Constituent) (v3 : Int) (v4 : Int) : Option F17.O0 := (if v4 < v3 then ((elt v2 v4).bind fun (a1 : Constituent) => (if a1.Oddity < (0 : Int) then (some (.ret (false))) else (if a1.Oddity > (7 : Int) then (some (.ret (false))) else (if a1.Odd = true then (if a1.Odd = true then ((F27 k v1 v4).bind fun (a4 : List Int) => ((elt a4 (0 : Int)).bind fun (a5 : Int) => (if a5 = v4 then (s0 v0 v1 v2 v3 (IntKind.wrap .i64 (v4 + (1 : Int)))) else (if a1.Oddity = (0 : Int) then (s0 v0 v1 v2 v3 (IntKind.wrap .i64 (v4 + (1 : Int)))) else (some (.ret (false))))))) else (s0 v0 v1 v2 v3 (IntKind.wrap .i64 (v4 + (1 : Int))))) else (if (Int.tmod a1.Dim (2 : Int)) = (0 : Int) then (if a1.Oddity = (0 : Int) then (if a1.Odd = true then ((F27 k v1 v4).bind fun (a2 : List Int) => ((elt a2 (0 : Int)).bind fun (a3 : Int) => (if a3 = v4 then (s0 v0 v1 v2 v3 (IntKind.wrap .i64 (v4 + (1 : Int)))) else (if a1.Oddity = (0 : Int) then (s0 v0 v1 v2 v3 (IntKind.wrap .i64 (v4 + (1 : Int)))) else (some (.ret (false))))))) else (s0 v0 v1 v2 v3 (IntKind.wrap .i64 (v4 + (1 : Int))))) else (some (.ret (false)))) else (some (.ret (false)))))))) else (some (.x0 v0 v1)))
def F17.l0 (k : Nat) : Nat → Int → (List Constituent) → (List Constituent) → Int → Int → Option F17.O0
  | 0, _, _, _, _, _ => none
  | j + 1, v0, v1, v2, v3, v4 => F17.l0_b k (F17.l0 k j) v0 v1 v2 v3 v4
inductive F17.O1 where
  | ret (r : F17.R)
  | x0
def F17.P1 (o : F17.O1) (Q : CV → CHeap → Prop) : Prop := match o with
  | .ret r => ∀ y K, Frz K y (F17.encR r) → Q y K
  | .x0 => Goes Tryz.prog 53 Tryz.f53.ntmps 0 2 (List.drop 3 F17.t1) ⟨[], [], 0⟩ Q
abbrev F17.O2 : Type := Int × (List Constituent) × (List Int) × Int × (List (List Int)) × Int × Int
def F17.P2 (o : F17.O2) (Q : CV → CHeap → Prop) : Prop := match o with | (v0, v1, v2, v3, v4, v5, v6) => Goes Tryz.prog 53 Tryz.f53.ntmps 0 2 (List.drop 3 F17.t2) ⟨[(1, CV.ptr 0 0), (6, CV.ro 1 (List.map enc_i64 v2) none), (7, CV.int .i64 v3), (71, CV.ro 1 (List.map enc_Li64 v4) none), (72, CV.int .i64 v5), (73, CV.int .i64 v6)], [(0, [CV.int .i64 v0, CV.ro 5 (List.map enc_Constituent v1) none])], 1⟩ Q
def F17.l2_b (k : Nat) (s0 : Int → (List Constituent) → (List Int) → Int → (List (List Int)) → Int → Int → (List Int) → Int → Int → Option F17.O2) (v0 : Int) (v1 : List Constituent) (v2 : List Int) (v3 : Int) (v4 : List (List Int)) (v5 : Int) (v6 : Int) (v7 : List Int) (v8 : Int) (v9 : Int) : Option F17.O2 := (if v9 < v8 then ((elt v7 v9).bind fun (a8 : Int) => ((elt v1 a8).bind fun (a9 : Constituent) => (s0 v0 v1 v2 (IntKind.wrap .i64 (v3 + a9.Dim)) v4 v5 v6 v7 v8 (IntKind.wrap .i64 (v9 + (1 : Int)))))) else (some (v0, v1, v2, v3, v4, v5, v6)))
def F17.l2 (k : Nat) : Nat → Int → (List Constituent) → (List Int) → Int → (List (List Int)) → Int → Int → (List Int) → Int → Int → Option F17.O2
  | 0, _, _, _, _, _, _, _, _, _, _ => none
  | j + 1, v0, v1, v2, v3, v4, v5, v6, v7, v8, v9 => F17.l2_b k (F17.l2 k j) v0 v1 v2 v3 v4 v5 v6 v7 v8 v9
def F17.c2 (k : Nat) (s0 : Int → (List Constituent) → (List (List Int)) → Int → Int → Option F17.O1) (v0 : Int) (v1 : List Constituent) (v2 : List Int) (v3 : Int) (v4 : List (List Int)) (v5 : Int) (v6 : Int) : Option F17.O1 := ((elt v2 (0 : Int)).bind fun (a10 : Int) => ((elt v1 a10).bind fun (a11 : Constituent) => (if (Int.tmod (IntKind.wrap .i64 (a11.Oddity - v3)) (2 : Int)) = (0 : Int) then (s0 v0 v1 v4 v5 (IntKind.wrap .i64 (v6 + (1 : Int)))) else (some (.ret (false))))))
def F17.l1_b (k : Nat) (s0 : Int → (List Constituent) → (List (List Int)) → Int → Int → Option F17.O1) (v0 : Int) (v1 : List Constituent) (v2 : List (List Int)) (v3 : Int) (v4 : Int) : Option F17.O1 := (if v4 < v3 then ((elt v2 v4).bind fun (a7 : List Int) => ((F17.l2 k k v0 v1 a7 (0 : Int) v2 v3 v4 a7 ((a7).length : Int) (0 : Int)).bind fun (v0, v1, v2, v3, v4, v5, v6) => F17.c2 k s0 v0 v1 v2 v3 v4 v5 v6)) else (some (.x0)))
def F17.l1 (k : Nat) : Nat → Int → (List Constituent) → (List (List Int)) → Int → Int → Option F17.O1
  | 0, _, _, _, _, _ => none
  | j + 1, v0, v1, v2, v3, v4 => F17.l1_b k (F17.l1 k j) v0 v1 v2 v3 v4
def F17.c1 (k : Nat) : Option F17.R := (some (true))
def F17.c0 (k : Nat) (v0 : Int) (v1 : List Constituent) : Option F17.R := ((F20 k v1).bind fun (a6 : List (List Int)) => ((F17.l1 k k v0 v1 a6 ((a6).length : Int) (0 : Int)).bind fun o => match o with | .ret r => some r | .x0 => F17.c1 k  ))
def F17.b (k : Nat) (p0_Prime : Int) (p0_List : List Constituent) : Option F17.R := (if p0_Prime = (2 : Int) then ((F26 k p0_List).bind fun (a0 : Bool) => (if a0 = true then ((F17.l0 k k p0_Prime p0_List p0_List ((p0_List).length : Int) (0 : Int)).bind fun o => match o with | .ret r => some r | .x0 v0 v1 => F17.c0 k  v0 v1) else (some (false)))) else (some (false)))
def F17 (k : Nat) (p0_Prime : Int) (p0_List : List Constituent) : Option F17.R := F17.b k p0_Prime p0_List
end Go.Cn
