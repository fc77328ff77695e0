import Derived.Test.YtgbijhccgmmkgabGreatDoorCb4
import Derived.Test.YtgbijhccgmmkgabGreatDoorProg
set_option linter.unusedVariables false
set_option linter.unusedSimpArgs false
set_option maxRecDepth 100000
set_option maxHeartbeats 0
noncomputable section
namespace Go.Cn
theorem lR {n m : Nat} (h : Nat.ble n m = true) : n ≤ m := Nat.le_of_ble_eq_true h
abbrev RT := CV → ub1 → Nat → Prop
abbrev LT := List Item → CS → Prop
abbrev QT := CV → ub1 → Prop
open Go.Proofs
structure ua0 where
  Exp : Int
  Dim : Int
  Sign : Int
  Odd : Bool
  Oddity : Int
  deriving DecidableEq, Inhabited
structure Local where
  Prime : Int
  List : List ua0
  deriving DecidableEq, Inhabited
structure A5u8 where
  x0 : Int
  x1 : Int
  x2 : Int
  x3 : Int
  x4 : Int
  deriving DecidableEq, Inhabited
structure Symbol where
  Prime : Int
  Parts : List A5u8
  deriving DecidableEq, Inhabited
def zC (a : ua0) : List CV := [CV.int .i64 a.Exp, CV.int .i64 a.Dim, CV.int .i64 a.Sign, CV.bool a.Odd, CV.int .i64 a.Oddity]
theorem ud4 (a : ua0) : (zC a).length = 5 := rfl
theorem ua4 (a : ua0) : ∀ x ∈ zC a, ua8 x := ub2 (xs := [CV.int .i64 a.Exp, CV.int .i64 a.Dim, CV.int .i64 a.Sign, CV.bool a.Odd, CV.int .i64 a.Oddity]) ⟨ua2, ua2, ua2, ua6, ua2, trivial⟩
theorem uo3 (a : ua0) : ScalL (zC a) := ⟨scal_int, scal_int, scal_int, uo4, scal_int, trivial⟩
theorem zC_alone (Z : Prop) (a : ua0) : Alone Z (zC a) := ⟨fun n => rfl, ⟨trivial, trivial, trivial, trivial, trivial, trivial⟩, fun h => ⟨trivial, trivial, trivial, trivial, trivial, trivial⟩⟩
theorem ud1 (a : ua0) : ue1 (zC a) := ⟨fun g => rfl, ⟨trivial, trivial, trivial, trivial, trivial, trivial⟩⟩
def zA (a : A5u8) : List CV := [CV.int .u8 a.x0, CV.int .u8 a.x1, CV.int .u8 a.x2, CV.int .u8 a.x3, CV.int .u8 a.x4]
theorem ud9 (a : A5u8) : ∀ x ∈ zA a, ua8 x := ub2 (xs := [CV.int .u8 a.x0, CV.int .u8 a.x1, CV.int .u8 a.x2, CV.int .u8 a.x3, CV.int .u8 a.x4]) ⟨ua2, ua2, ua2, ua2, ua2, trivial⟩
def zi (a : Int) : List CV := [CV.int .i64 a]
theorem uf9 (a : Int) : (zi a).length = 1 := rfl
theorem ub5 (a : Int) : ∀ x ∈ zi a, ua8 x := ub2 (xs := [CV.int .i64 a]) ⟨ua2, trivial⟩
theorem ue8 (a : Int) : ue1 (zi a) := ⟨fun g => rfl, ⟨trivial, trivial⟩⟩
def zLi (a : List Int) : List CV := [CV.ro 1 (List.map zi a) none]
theorem ud6 (a : List Int) : (zLi a).length = 1 := rfl
theorem ub6 (a : List Int) : ∀ x ∈ zLi a, ua8 x := ub2 (xs := [CV.ro 1 (List.map zi a) none]) ⟨(ua1 ub5), trivial⟩
theorem uc2 (a : List Int) : ue1 (zLi a) := ⟨fun g => rfl, ⟨(ua1 ub5), trivial⟩⟩
def zu (a : Int) : List CV := [CV.int .u8 a]
def zb (a : Bool) : List CV := [CV.bool a]
def zLC (a : List ua0) : List CV := [CV.ro 5 (List.map zC a) none]
def zL (a : List A5u8) : List CV := [CV.ro 5 (List.map zA a) none]
def zi8 (a : Int) : List CV := [CV.int .i8 a]
def zLu (a : List Int) : List CV := [CV.ro 1 (List.map zu a) none]
theorem sz2 : tsize Tryz.prog 2 = some 1 := tsize_of Tryz.type2
theorem ag2 : aggT Tryz.prog 2 = some false := by kernel_rfl
theorem sz94 : tsize Tryz.prog 94 = some 5 := tsize_of Tryz.type94
theorem nz22 : noZeros Tryz.prog (some 22) = true := by kernel_rfl
theorem sz45 : tsize Tryz.prog 45 = some 5 := tsize_of Tryz.type45
theorem nz40 : noZeros Tryz.prog (some 40) = true := by kernel_rfl
theorem sz43 : tsize Tryz.prog 43 = some 1 := tsize_of Tryz.type43
theorem ag43 : aggT Tryz.prog 43 = some false := by kernel_rfl
theorem nz43 : noZeros Tryz.prog (some 43) = true := by kernel_rfl
theorem sz3 : tsize Tryz.prog 3 = some 1 := tsize_of Tryz.type3
theorem ag3 : aggT Tryz.prog 3 = some false := by kernel_rfl
theorem ag4 : aggT Tryz.prog 4 = some false := by kernel_rfl
theorem ag45 : aggT Tryz.prog 45 = some true := by kernel_rfl
theorem cz24 : Tryz.prog.cellsOf 24 = 2 := by kernel_rfl
theorem cz2 : Tryz.prog.cellsOf 2 = 1 := by kernel_rfl
theorem cz45 : Tryz.prog.cellsOf 45 = 5 := by kernel_rfl
theorem cz3 : Tryz.prog.cellsOf 3 = 1 := by kernel_rfl
theorem cz4 : Tryz.prog.cellsOf 4 = 1 := by kernel_rfl
theorem cz22 : Tryz.prog.cellsOf 22 = 1 := by kernel_rfl
theorem cz27 : Tryz.prog.cellsOf 27 = 2 := by kernel_rfl
theorem cz5 : Tryz.prog.cellsOf 5 = 1 := by kernel_rfl
theorem cz94 : Tryz.prog.cellsOf 94 = 5 := by kernel_rfl
theorem cz25 : Tryz.prog.cellsOf 25 = 1 := by kernel_rfl
def uk9 (a : ua0) : Prop := (okI .i64) a.Exp ∧ (okI .i64) a.Dim ∧ (okI .i64) a.Sign ∧ okB a.Odd ∧ (okI .i64) a.Oddity
def um3 (a : A5u8) : Prop := (okI .u8) a.x0 ∧ (okI .u8) a.x1 ∧ (okI .u8) a.x2 ∧ (okI .u8) a.x3 ∧ (okI .u8) a.x4
theorem dat2 (m : Nat) (cs : List CV) (h : Dat Tryz.prog m 2 cs) : ∃ a : Int, cs = zi a ∧ (okI .i64) a :=
  dat_int Tryz.underlying2 h
theorem dat3 (m : Nat) (cs : List CV) (h : Dat Tryz.prog m 3 cs) : ∃ a : Int, cs = zi a ∧ (okI .i64) a :=
  dat_int Tryz.underlying3 h
theorem dat4 (m : Nat) (cs : List CV) (h : Dat Tryz.prog m 4 cs) : ∃ a : Bool, cs = zb a ∧ okB a :=
  dat_bool Tryz.underlying4 h
theorem dat45 (m : Nat) (cs : List CV) (h : Dat Tryz.prog m 45 cs) : ∃ a : ua0, cs = zC a ∧ uk9 a :=
  by
  obtain ⟨hl, m, hf⟩ := dat_struct Tryz.underlying45 cz45 h
  obtain ⟨c0, c1, c2, c3, c4, rfl⟩ : ∃ c0 c1 c2 c3 c4, cs = [c0, c1, c2, c3, c4] := by
    match cs, hl with
    | [c0, c1, c2, c3, c4], _ => exact ⟨_, _, _, _, _, rfl⟩
  have h0 := hf 0 _ rfl
  change Dat Tryz.prog m 3 (List.take (Tryz.prog.cellsOf 3) (List.drop 0 [c0, c1, c2, c3, c4])) at h0
  rw [cz3] at h0
  have h1 := hf 1 _ rfl
  change Dat Tryz.prog m 3 (List.take (Tryz.prog.cellsOf 3) (List.drop 1 [c0, c1, c2, c3, c4])) at h1
  rw [cz3] at h1
  have h2 := hf 2 _ rfl
  change Dat Tryz.prog m 3 (List.take (Tryz.prog.cellsOf 3) (List.drop 2 [c0, c1, c2, c3, c4])) at h2
  rw [cz3] at h2
  have h3 := hf 3 _ rfl
  change Dat Tryz.prog m 4 (List.take (Tryz.prog.cellsOf 4) (List.drop 3 [c0, c1, c2, c3, c4])) at h3
  rw [cz4] at h3
  have h4 := hf 4 _ rfl
  change Dat Tryz.prog m 3 (List.take (Tryz.prog.cellsOf 3) (List.drop 4 [c0, c1, c2, c3, c4])) at h4
  rw [cz3] at h4
  obtain ⟨x0, y0, z0⟩ := dat3 m _ h0
  obtain rfl := List.head_eq_of_cons_eq y0
  obtain ⟨x1, y1, z1⟩ := dat3 m _ h1
  obtain rfl := List.head_eq_of_cons_eq y1
  obtain ⟨x2, y2, z2⟩ := dat3 m _ h2
  obtain rfl := List.head_eq_of_cons_eq y2
  obtain ⟨x3, y3, z3⟩ := dat4 m _ h3
  obtain rfl := List.head_eq_of_cons_eq y3
  obtain ⟨x4, y4, z4⟩ := dat3 m _ h4
  obtain rfl := List.head_eq_of_cons_eq y4
  exact ⟨⟨x0, x1, x2, x3, x4⟩, rfl, z0, z1, z2, z3, z4⟩
theorem dat22 (m : Nat) (cs : List CV) (h : Dat Tryz.prog m 22 cs) : ∃ a : List ua0, cs = zLC a ∧ (okL uk9) a :=
  dat_list (enc := zC) Tryz.underlying22 cz45 (fun m r h => dat45 m r h) h
theorem dat5 (m : Nat) (cs : List CV) (h : Dat Tryz.prog m 5 cs) : ∃ a : Int, cs = zu a ∧ (okI .u8) a :=
  dat_int Tryz.underlying5 h
theorem dat94 (m : Nat) (cs : List CV) (h : Dat Tryz.prog m 94 cs) : ∃ a : A5u8, cs = zA a ∧ um3 a :=
  by
  obtain ⟨hl, m, hf⟩ := dat_array Tryz.underlying94 cz94 cz5 h
  obtain ⟨c0, c1, c2, c3, c4, rfl⟩ : ∃ c0 c1 c2 c3 c4, cs = [c0, c1, c2, c3, c4] := by
    match cs, hl with
    | [c0, c1, c2, c3, c4], _ => exact ⟨_, _, _, _, _, rfl⟩
  have h0 : Dat Tryz.prog m 5 [c0] := hf 0 (by decide)
  have h1 : Dat Tryz.prog m 5 [c1] := hf 1 (by decide)
  have h2 : Dat Tryz.prog m 5 [c2] := hf 2 (by decide)
  have h3 : Dat Tryz.prog m 5 [c3] := hf 3 (by decide)
  have h4 : Dat Tryz.prog m 5 [c4] := hf 4 (by decide)
  obtain ⟨x0, y0, z0⟩ := dat5 m _ h0
  obtain rfl := List.head_eq_of_cons_eq y0
  obtain ⟨x1, y1, z1⟩ := dat5 m _ h1
  obtain rfl := List.head_eq_of_cons_eq y1
  obtain ⟨x2, y2, z2⟩ := dat5 m _ h2
  obtain rfl := List.head_eq_of_cons_eq y2
  obtain ⟨x3, y3, z3⟩ := dat5 m _ h3
  obtain rfl := List.head_eq_of_cons_eq y3
  obtain ⟨x4, y4, z4⟩ := dat5 m _ h4
  obtain rfl := List.head_eq_of_cons_eq y4
  exact ⟨⟨x0, x1, x2, x3, x4⟩, rfl, z0, z1, z2, z3, z4⟩
theorem dat25 (m : Nat) (cs : List CV) (h : Dat Tryz.prog m 25 cs) : ∃ a : List A5u8, cs = zL a ∧ (okL um3) a :=
  dat_list (enc := zA) Tryz.underlying25 cz94 (fun m r h => dat94 m r h) h
theorem dat28 (m : Nat) (cs : List CV) (h : Dat Tryz.prog m 28 cs) : ∃ a : Int, cs = zi8 a ∧ (okI .i8) a :=
  dat_int Tryz.underlying28 h
theorem F1 (m : Nat) (xs : List CV) (h : DatAll Tryz.prog m [24, 27, 5, 5, 28, 4] xs) : ∃ (p0Pr : Int) (p0L : List ua0) (p1Pr : Int) (p1P : List A5u8) (p2 : Int) (p3 : Int) (p4 : Int) (p5 : Bool), xs = [CV.agg [CV.int .i64 p0Pr, CV.ro 5 (List.map zC p0L) none], CV.agg [CV.int .u8 p1Pr, CV.ro 5 (List.map zA p1P) none], CV.int .u8 p2, CV.int .u8 p3, CV.int .i8 p4, CV.bool p5] ∧ (okI .i64) p0Pr ∧ (okL uk9) p0L ∧ (okI .u8) p1Pr ∧ (okL um3) p1P ∧ (okI .u8) p2 ∧ (okI .u8) p3 ∧ (okI .i8) p4 ∧ okB p5 := by
  obtain ⟨x0, x1, x2, x3, x4, x5, rfl⟩ : ∃ x0 x1 x2 x3 x4 x5, xs = [x0, x1, x2, x3, x4, x5] := by
    match xs, h with
    | [x0, x1, x2, x3, x4, x5], _ => exact ⟨_, _, _, _, _, _, rfl⟩
  obtain ⟨⟨d0, e0, h0⟩, ⟨d1, e1, h1⟩, ⟨d2, e2, h2⟩, ⟨d3, e3, h3⟩, ⟨d4, e4, h4⟩, ⟨d5, e5, h5⟩, _⟩ := h
  rw [asCV_struct Tryz.underlying24] at e0
  obtain ⟨hl0, m0, hf0⟩ := dat_struct Tryz.underlying24 cz24 h0
  obtain ⟨c0_0, c0_1, rfl⟩ : ∃ c0_0 c0_1, d0 = [c0_0, c0_1] := by
    match d0, hl0 with
    | [c0_0, c0_1], _ => exact ⟨_, _, rfl⟩
  have g0_0 := hf0 0 _ rfl
  change Dat Tryz.prog m0 2 (List.take (Tryz.prog.cellsOf 2) (List.drop 0 [c0_0, c0_1])) at g0_0
  rw [cz2] at g0_0
  have g0_1 := hf0 1 _ rfl
  change Dat Tryz.prog m0 22 (List.take (Tryz.prog.cellsOf 22) (List.drop 1 [c0_0, c0_1])) at g0_1
  rw [cz22] at g0_1
  obtain ⟨v0, y0, z0⟩ := dat2 m0 _ g0_0
  obtain rfl := List.head_eq_of_cons_eq y0
  obtain ⟨v1, y1, z1⟩ := dat22 m0 _ g0_1
  obtain rfl := List.head_eq_of_cons_eq y1
  rw [asCV_struct Tryz.underlying27] at e1
  obtain ⟨hl1, m1, hf1⟩ := dat_struct Tryz.underlying27 cz27 h1
  obtain ⟨c1_0, c1_1, rfl⟩ : ∃ c1_0 c1_1, d1 = [c1_0, c1_1] := by
    match d1, hl1 with
    | [c1_0, c1_1], _ => exact ⟨_, _, rfl⟩
  have g1_0 := hf1 0 _ rfl
  change Dat Tryz.prog m1 5 (List.take (Tryz.prog.cellsOf 5) (List.drop 0 [c1_0, c1_1])) at g1_0
  rw [cz5] at g1_0
  have g1_1 := hf1 1 _ rfl
  change Dat Tryz.prog m1 25 (List.take (Tryz.prog.cellsOf 25) (List.drop 1 [c1_0, c1_1])) at g1_1
  rw [cz25] at g1_1
  obtain ⟨v2, y2, z2⟩ := dat5 m1 _ g1_0
  obtain rfl := List.head_eq_of_cons_eq y2
  obtain ⟨v3, y3, z3⟩ := dat25 m1 _ g1_1
  obtain rfl := List.head_eq_of_cons_eq y3
  obtain ⟨v4, y4, z4⟩ := dat5 m d2 h2
  subst y4
  replace e2 := e2.trans (asCV_int Tryz.underlying5)
  obtain ⟨v5, y5, z5⟩ := dat5 m d3 h3
  subst y5
  replace e3 := e3.trans (asCV_int Tryz.underlying5)
  obtain ⟨v6, y6, z6⟩ := dat28 m d4 h4
  subst y6
  replace e4 := e4.trans (asCV_int Tryz.underlying28)
  obtain ⟨v7, y7, z7⟩ := dat4 m d5 h5
  subst y7
  replace e5 := e5.trans (asCV_bool Tryz.underlying4)
  exact ⟨v0, v1, v2, v3, v4, v5, v6, v7, by rw [e0, e1, e2, e3, e4, e5], z0, z1, z2, z3, z4, z5, z6, z7⟩
end Go.Cn
