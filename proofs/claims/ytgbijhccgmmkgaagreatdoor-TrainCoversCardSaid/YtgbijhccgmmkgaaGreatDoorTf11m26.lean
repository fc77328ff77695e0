import Derived.Test.YtgbijhccgmmkgaaGreatDoorTy11
import Derived.Test.YtgbijhccgmmkgaaGreatDoorTf11m0
import Derived.Test.YtgbijhccgmmkgaaGreatDoorTf11m12
import Derived.Test.YtgbijhccgmmkgaaGreatDoorTf11m14
import Derived.Test.YtgbijhccgmmkgaaGreatDoorTf11m16
import Derived.Test.YtgbijhccgmmkgaaGreatDoorTf11m19
import Derived.Test.YtgbijhccgmmkgaaGreatDoorTf11m3
import Derived.Test.YtgbijhccgmmkgaaGreatDoorTf11m5
import Derived.Test.YtgbijhccgmmkgaaGreatDoorTf11m7
import Derived.Test.YtgbijhccgmmkgaaGreatDoorTf11m8
import Derived.Test.YtgbijhccgmmkgaaGreatDoorProg
set_option linter.unusedVariables false
set_option maxRecDepth 100000
set_option maxHeartbeats 0
noncomputable section
namespace Go.Cn
open Go.Proofs
/-! ### quadform/quadformref26.Compartments -/
abbrev F15.R : Type := List (List Int) × Bool
def F15.encR (r : F15.R) : CV := CV.tup [CV.ro 1 (List.map enc_Li64 r.1) none, CV.bool r.2]
def F15.b (k : Nat) (p0_Prime : Int) (p0_List : List Constituent) : Option F15.R := ((F23 k p0_Prime p0_List).bind fun (a0 : Bool) => (if a0 = true then ((F20 k p0_List).bind fun (a3 : List (List Int)) => (some (a3, true))) else ((F17 k p0_Prime p0_List).bind fun (a1 : Bool) => (if a1 = true then ((F20 k p0_List).bind fun (a2 : List (List Int)) => (some (a2, true))) else (some ([], false))))))
def F15 (k : Nat) (p0_Prime : Int) (p0_List : List Constituent) : Option F15.R := F15.b k p0_Prime p0_List
/-! ### quadform/quadformref26.Chains -/
abbrev F14.R : Type := List (List Int)
def F14.encR (r : F14.R) : CV := CV.ro 1 (List.map enc_Li64 r) none
def F14.t0 : List Item := enter (dsc 10000 [] [.code (bodyOf Tryz.f59)])
inductive F14.O0 where
  | x0
  | x1 (v0 : List (List Int)) (v1 : Int)
  | x2 (v0 : List (List Int)) (v1 : List Int)
def F14.P0 (o : F14.O0) (Q : CV → CHeap → Prop) : Prop := match o with
  | .x0 => Goes Tryz.prog 59 Tryz.f59.ntmps 0 5 (List.drop 3 F14.t0) ⟨[(3, CV.ro 1 [] (some 0))], [], 0⟩ Q
  | .x1 v0 v1 => Goes Tryz.prog 59 Tryz.f59.ntmps 0 5 (List.drop 3 F14.t0) ⟨[(3, CV.slice 1 0 0 ((v0).length + 1) none)], [(0, (List.flatMap enc_Li64 v0 ++ [CV.slice 1 1 0 1 (some 1)])), (1, [CV.int .i64 v1])], 2⟩ Q
  | .x2 v0 v1 => Goes Tryz.prog 59 Tryz.f59.ntmps 0 5 (List.drop 3 F14.t0) ⟨[(3, CV.slice 1 0 0 ((v0).length + 1) none)], [(0, (List.flatMap enc_Li64 v0 ++ [CV.slice 1 1 0 (v1).length none])), (1, (List.flatMap enc_i64 v1))], 2⟩ Q
def F14.l0_b (k : Nat) (s0 : (List Constituent) → Int → Int → Option F14.O0) (s1 : (List (List Int)) → Int → (List Constituent) → Int → Int → Option F14.O0) (s2 : (List (List Int)) → (List Int) → (List Constituent) → Int → Int → Option F14.O0) (v0 : List Constituent) (v1 : Int) (v2 : Int) : Option F14.O0 := (if v2 < v1 then (if v2 > (0 : Int) then ((F19 k v0 v2).bind fun (a0 : Bool) => (if a0 = true then none else (s1 [] v2 v0 v1 (IntKind.wrap .i64 (v2 + (1 : Int)))))) else (s1 [] v2 v0 v1 (IntKind.wrap .i64 (v2 + (1 : Int))))) else (some (.x0)))
def F14.l0b_b (k : Nat) (s0 : (List Constituent) → Int → Int → Option F14.O0) (s1 : (List (List Int)) → Int → (List Constituent) → Int → Int → Option F14.O0) (s2 : (List (List Int)) → (List Int) → (List Constituent) → Int → Int → Option F14.O0) (v0 : List (List Int)) (v1 : Int) (v2 : List Constituent) (v3 : Int) (v4 : Int) : Option F14.O0 := (if v4 < v3 then (if v4 > (0 : Int) then ((F19 k v2 v4).bind fun (a1 : Bool) => (if a1 = true then (if (v0).length < 1073741824 then (s2 v0 [v1, v4] v2 v3 (IntKind.wrap .i64 (v4 + (1 : Int)))) else none) else (if (v0).length < 1073741824 then (s1 (v0 ++ [[v1]]) v4 v2 v3 (IntKind.wrap .i64 (v4 + (1 : Int)))) else none))) else (if (v0).length < 1073741824 then (s1 (v0 ++ [[v1]]) v4 v2 v3 (IntKind.wrap .i64 (v4 + (1 : Int)))) else none)) else (some (.x1 v0 v1)))
def F14.l0c_b (k : Nat) (s0 : (List Constituent) → Int → Int → Option F14.O0) (s1 : (List (List Int)) → Int → (List Constituent) → Int → Int → Option F14.O0) (s2 : (List (List Int)) → (List Int) → (List Constituent) → Int → Int → Option F14.O0) (v0 : List (List Int)) (v1 : List Int) (v2 : List Constituent) (v3 : Int) (v4 : Int) : Option F14.O0 := (if v4 < v3 then (if v4 > (0 : Int) then ((F19 k v2 v4).bind fun (a5 : Bool) => (if a5 = true then (if (v0).length < 1073741824 then (if (v1).length < 1073741824 then (s2 v0 (v1 ++ [v4]) v2 v3 (IntKind.wrap .i64 (v4 + (1 : Int)))) else none) else none) else (if (v0).length < 1073741824 then (s1 (v0 ++ [v1]) v4 v2 v3 (IntKind.wrap .i64 (v4 + (1 : Int)))) else none))) else (if (v0).length < 1073741824 then (s1 (v0 ++ [v1]) v4 v2 v3 (IntKind.wrap .i64 (v4 + (1 : Int)))) else none)) else (some (.x2 v0 v1)))
mutual
def F14.l0 (k : Nat) : Nat → (List Constituent) → Int → Int → Option F14.O0
  | 0, _, _, _ => none
  | j + 1, v0, v1, v2 => F14.l0_b k (F14.l0 k j) (F14.l0b k j) (F14.l0c k j) v0 v1 v2
def F14.l0b (k : Nat) : Nat → (List (List Int)) → Int → (List Constituent) → Int → Int → Option F14.O0
  | 0, _, _, _, _, _ => none
  | j + 1, v0, v1, v2, v3, v4 => F14.l0b_b k (F14.l0 k j) (F14.l0b k j) (F14.l0c k j) v0 v1 v2 v3 v4
def F14.l0c (k : Nat) : Nat → (List (List Int)) → (List Int) → (List Constituent) → Int → Int → Option F14.O0
  | 0, _, _, _, _, _ => none
  | j + 1, v0, v1, v2, v3, v4 => F14.l0c_b k (F14.l0 k j) (F14.l0b k j) (F14.l0c k j) v0 v1 v2 v3 v4
end
def F14.c0 (k : Nat) : Option F14.R := (some ([]))
def F14.c1 (k : Nat) (v0 : List (List Int)) (v1 : Int) : Option F14.R := (some ((v0 ++ [[v1]])))
def F14.c2 (k : Nat) (v0 : List (List Int)) (v1 : List Int) : Option F14.R := (some ((v0 ++ [v1])))
def F14.b (k : Nat) (p0 : List Constituent) : Option F14.R := ((F14.l0 k k p0 ((p0).length : Int) (0 : Int)).bind fun o => match o with | .x0 => F14.c0 k   | .x1 v0 v1 => F14.c1 k  v0 v1 | .x2 v0 v1 => F14.c2 k  v0 v1)
def F14 (k : Nat) (p0 : List Constituent) : Option F14.R := F14.b k p0
/-! ### quadform/quadformref26.Trains -/
abbrev F22.R : Type := List (List Int) × Bool
def F22.encR (r : F22.R) : CV := CV.tup [CV.ro 1 (List.map enc_Li64 r.1) none, CV.bool r.2]
def F22.b (k : Nat) (p0_Prime : Int) (p0_List : List Constituent) : Option F22.R := ((F23 k p0_Prime p0_List).bind fun (a0 : Bool) => (if a0 = true then ((F14 k p0_List).bind fun (a3 : List (List Int)) => (some (a3, true))) else ((F17 k p0_Prime p0_List).bind fun (a1 : Bool) => (if a1 = true then ((F14 k p0_List).bind fun (a2 : List (List Int)) => (some (a2, true))) else (some ([], false))))))
def F22 (k : Nat) (p0_Prime : Int) (p0_List : List Constituent) : Option F22.R := F22.b k p0_Prime p0_List
/-! ### quadform/quadformlaw27.sameParts -/
abbrev F11.R : Type := Bool
def F11.encR (r : F11.R) : CV := CV.bool r
def F11.t0 : List Item := enter (dsc 10000 [false] [.code (bodyOf Tryz.f33)])
def F11.t1 : List Item := enter (dsc 10000 [true, false] F11.t0)
inductive F11.O0 where
  | ret (r : F11.R)
  | x0
def F11.P0 (o : F11.O0) (Q : CV → CHeap → Prop) : Prop := match o with
  | .ret r => ∀ y K, Frz K y (F11.encR r) → Q y K
  | .x0 => Goes Tryz.prog 33 Tryz.f33.ntmps 0 1 (List.drop 3 F11.t0) ⟨[], [], 0⟩ Q
inductive F11.O1 where
  | ret (r : F11.R)
  | x0 (v0 : List (List Int)) (v1 : List (List Int)) (v2 : Int) (v3 : Int)
def F11.P1 (o : F11.O1) (Q : CV → CHeap → Prop) : Prop := match o with
  | .ret r => ∀ y K, Frz K y (F11.encR r) → Q y K
  | .x0 v0 v1 v2 v3 => Goes Tryz.prog 33 Tryz.f33.ntmps 0 1 (List.drop 3 F11.t1) ⟨[(0, CV.ro 1 (List.map enc_Li64 v0) none), (1, CV.ro 1 (List.map enc_Li64 v1) none), (13, CV.int .i64 v2), (14, CV.int .i64 v3)], [], 0⟩ Q
def F11.l1_b (k : Nat) (s0 : (List (List Int)) → (List (List Int)) → Int → Int → Int → Int → Int → Option F11.O1) (v0 : List (List Int)) (v1 : List (List Int)) (v2 : Int) (v3 : Int) (v4 : Int) (v5 : Int) (v6 : Int) : Option F11.O1 := (if v6 < v5 then ((elt v0 v2).bind fun (a2 : List Int) => ((elt a2 v6).bind fun (a3 : Int) => ((elt v1 v2).bind fun (a4 : List Int) => ((elt a4 v6).bind fun (a5 : Int) => (if a3 = a5 then (s0 v0 v1 v2 v3 v4 v5 (IntKind.wrap .i64 (v6 + (1 : Int)))) else (some (.ret (false)))))))) else (some (.x0 v0 v1 v3 v4)))
def F11.l1 (k : Nat) : Nat → (List (List Int)) → (List (List Int)) → Int → Int → Int → Int → Int → Option F11.O1
  | 0, _, _, _, _, _, _, _ => none
  | j + 1, v0, v1, v2, v3, v4, v5, v6 => F11.l1_b k (F11.l1 k j) v0 v1 v2 v3 v4 v5 v6
def F11.c1 (k : Nat) (s0 : (List (List Int)) → (List (List Int)) → Int → Int → Option F11.O0) (v0 : List (List Int)) (v1 : List (List Int)) (v2 : Int) (v3 : Int) : Option F11.O0 := (s0 v0 v1 v2 (IntKind.wrap .i64 (v3 + (1 : Int))))
def F11.l0_b (k : Nat) (s0 : (List (List Int)) → (List (List Int)) → Int → Int → Option F11.O0) (v0 : List (List Int)) (v1 : List (List Int)) (v2 : Int) (v3 : Int) : Option F11.O0 := (if v3 < v2 then ((elt v0 v3).bind fun (a0 : List Int) => ((elt v1 v3).bind fun (a1 : List Int) => (if ((a0).length : Int) = ((a1).length : Int) then ((F11.l1 k k v0 v1 v3 v2 v3 ((a0).length : Int) (0 : Int)).bind fun o => match o with | .ret r => some (.ret r) | .x0 v0 v1 v2 v3 => F11.c1 k s0 v0 v1 v2 v3) else (some (.ret (false)))))) else (some (.x0)))
def F11.l0 (k : Nat) : Nat → (List (List Int)) → (List (List Int)) → Int → Int → Option F11.O0
  | 0, _, _, _, _ => none
  | j + 1, v0, v1, v2, v3 => F11.l0_b k (F11.l0 k j) v0 v1 v2 v3
def F11.c0 (k : Nat) : Option F11.R := (some (true))
def F11.b (k : Nat) (p0 : List (List Int)) (p1 : List (List Int)) : Option F11.R := (if ((p0).length : Int) = ((p1).length : Int) then ((F11.l0 k k p0 p1 ((p0).length : Int) (0 : Int)).bind fun o => match o with | .ret r => some r | .x0 => F11.c0 k  ) else (some (false)))
def F11 (k : Nat) (p0 : List (List Int)) (p1 : List (List Int)) : Option F11.R := F11.b k p0 p1
/-! ### quadform/quadformlaw27.TrainParts -/
abbrev F3.R : Type := Bool
def F3.encR (r : F3.R) : CV := CV.bool r
def F3.b (k : Nat) (p0_Prime : Int) (p0_List : List Constituent) (p1_Prime : Int) (p1_Parts : List A5u8) (p2 : Int) (p3 : Int) (p4 : Int) (p5 : Bool) : Option F3.R := ((F8 k p0_Prime p0_List).bind fun (a0 : Bool) => (if a0 = true then ((F4 k).bind fun (a1 : Bool) => (some (a1))) else ((F9 k p1_Prime p1_Parts).bind fun (a2 : Bool) => (if a2 = true then ((F4 k).bind fun (a3 : Bool) => (some (a3))) else ((F12 k p0_Prime p0_List p1_Prime p1_Parts p2 p3 p4 p5).bind fun (a4 : Int × List Constituent) => ((F41 k a4.1 a4.2).bind fun (a5 : List (List Int) × Bool) => ((F15 k a4.1 a4.2).bind fun (a6 : List (List Int) × Bool) => ((F47 k a4.1 a4.2).bind fun (a7 : List (List Int) × Bool) => ((F22 k a4.1 a4.2).bind fun (a8 : List (List Int) × Bool) => (if a5.2 = a6.2 then (if a7.2 = a8.2 then ((F11 k a5.1 a6.1).bind fun (a9 : Bool) => (if a9 = true then ((F11 k a7.1 a8.1).bind fun (a10 : Bool) => (if a10 = true then ((F4 k).bind fun (a11 : Bool) => (some (a11))) else (some (false)))) else (some (false)))) else (some (false))) else (some (false))))))))))))
def F3 (k : Nat) (p0_Prime : Int) (p0_List : List Constituent) (p1_Prime : Int) (p1_Parts : List A5u8) (p2 : Int) (p3 : Int) (p4 : Int) (p5 : Bool) : Option F3.R := F3.b k p0_Prime p0_List p1_Prime p1_Parts p2 p3 p4 p5
end Go.Cn
