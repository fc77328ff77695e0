import Derived.Test.YtgbijhccgmmkgabGreatDoorCb4
import Derived.Test.YtgbijhccgmmkgabGreatDoorProg
set_option linter.unusedVariables false
set_option linter.unusedSimpArgs false
set_option maxRecDepth 100000
set_option maxHeartbeats 0
noncomputable section
namespace Go.Cn
theorem lR {n m : Nat} (h : Nat.ble n m = true) : n ≤ m := Nat.le_of_ble_eq_true h
abbrev RT := CV → ua8 → Nat → Prop
abbrev LT := List Item → CS → Prop
abbrev QT := CV → ua8 → Prop
open Go.Proofs
structure ua0 where
  Exp : Int
  Dim : Int
  Sign : Int
  Odd : Bool
  Oddity : Int
  deriving DecidableEq, Inhabited
structure Local where
  Prime : Int
  List : List ua0
  deriving DecidableEq, Inhabited
structure A5u8 where
  x0 : Int
  x1 : Int
  x2 : Int
  x3 : Int
  x4 : Int
  deriving DecidableEq, Inhabited
structure Symbol where
  Prime : Int
  Parts : List A5u8
  deriving DecidableEq, Inhabited
def zC (a : ua0) : List CV := [CV.int .i64 a.Exp, CV.int .i64 a.Dim, CV.int .i64 a.Sign, CV.bool a.Odd, CV.int .i64 a.Oddity]
theorem ui2 (a : ua0) : (zC a).length = 5 := rfl
theorem ua7 (a : ua0) : ∀ x ∈ zC a, ub0 x := ua9 (xs := [CV.int .i64 a.Exp, CV.int .i64 a.Dim, CV.int .i64 a.Sign, CV.bool a.Odd, CV.int .i64 a.Oddity]) ⟨ua1, ua1, ua1, ua5, ua1, trivial⟩
theorem zC_scal (a : ua0) : ScalL (zC a) := ⟨scal_int, scal_int, scal_int, scal_bool, scal_int, trivial⟩
theorem zC_alone (Z : Prop) (a : ua0) : Alone Z (zC a) := ⟨fun n => rfl, ⟨trivial, trivial, trivial, trivial, trivial, trivial⟩, fun h => ⟨trivial, trivial, trivial, trivial, trivial, trivial⟩⟩
theorem uc6 (a : ua0) : ue1 (zC a) := ⟨fun g => rfl, ⟨trivial, trivial, trivial, trivial, trivial, trivial⟩⟩
def zA (a : A5u8) : List CV := [CV.int .u8 a.x0, CV.int .u8 a.x1, CV.int .u8 a.x2, CV.int .u8 a.x3, CV.int .u8 a.x4]
theorem ug0 (a : A5u8) : ∀ x ∈ zA a, ub0 x := ua9 (xs := [CV.int .u8 a.x0, CV.int .u8 a.x1, CV.int .u8 a.x2, CV.int .u8 a.x3, CV.int .u8 a.x4]) ⟨ua1, ua1, ua1, ua1, ua1, trivial⟩
def zi (a : Int) : List CV := [CV.int .i64 a]
theorem zi_len (a : Int) : (zi a).length = 1 := rfl
theorem ub9 (a : Int) : ∀ x ∈ zi a, ub0 x := ua9 (xs := [CV.int .i64 a]) ⟨ua1, trivial⟩
theorem um3 (a : Int) : ue1 (zi a) := ⟨fun g => rfl, ⟨trivial, trivial⟩⟩
def zLi (a : List Int) : List CV := [CV.ro 1 (List.map zi a) none]
theorem ug4 (a : List Int) : (zLi a).length = 1 := rfl
theorem uc0 (a : List Int) : ∀ x ∈ zLi a, ub0 x := ua9 (xs := [CV.ro 1 (List.map zi a) none]) ⟨(ua2 ub9), trivial⟩
theorem uc9 (a : List Int) : ue1 (zLi a) := ⟨fun g => rfl, ⟨(ua2 ub9), trivial⟩⟩
def zu (a : Int) : List CV := [CV.int .u8 a]
def zb (a : Bool) : List CV := [CV.bool a]
def zLC (a : List ua0) : List CV := [CV.ro 5 (List.map zC a) none]
def zL (a : List A5u8) : List CV := [CV.ro 5 (List.map zA a) none]
def zi8 (a : Int) : List CV := [CV.int .i8 a]
def zLu (a : List Int) : List CV := [CV.ro 1 (List.map zu a) none]
theorem sz94 : tsize Tryz.prog 94 = some 5 := tsize_of Tryz.type94
theorem nz22 : noZeros Tryz.prog (some 22) = true := by kernel_rfl
theorem sz45 : tsize Tryz.prog 45 = some 5 := tsize_of Tryz.type45
theorem nz40 : noZeros Tryz.prog (some 40) = true := by kernel_rfl
theorem sz43 : tsize Tryz.prog 43 = some 1 := tsize_of Tryz.type43
theorem ag43 : aggT Tryz.prog 43 = some false := by kernel_rfl
theorem nz43 : noZeros Tryz.prog (some 43) = true := by kernel_rfl
theorem sz3 : tsize Tryz.prog 3 = some 1 := tsize_of Tryz.type3
theorem ag45 : aggT Tryz.prog 45 = some true := by kernel_rfl
theorem eq45_neq (x y : ua0) : cbin Tryz.prog .neq 45 (.agg (zC x)) (.agg (zC y)) = some (.bool (!decide (x = y))) := by
  have h : ∀ (a b : ua0), cbin Tryz.prog .neq 45 (.agg (zC a)) (.agg (zC b)) = (match ((if a.Exp = b.Exp then (if a.Dim = b.Dim then (if a.Sign = b.Sign then (if a.Odd = b.Odd then (if a.Oddity = b.Oddity then some true else some false) else some false) else some false) else some false) else some false)) with | some b => some (.bool !b) | none => none) := fun a b => by kernel_rfl
  rw [h]
  obtain ⟨x0, x1, x2, x3, x4⟩ := x
  obtain ⟨y0, y1, y2, y3, y4⟩ := y
  by_cases h0 : x0 = y0 <;> by_cases h1 : x1 = y1 <;> by_cases h2 : x2 = y2 <;> by_cases h3 : x3 = y3 <;> by_cases h4 : x4 = y4 <;> simp [h0, h1, h2, h3, h4]
theorem cz27 : Tryz.prog.cellsOf 27 = 2 := by kernel_rfl
theorem cz5 : Tryz.prog.cellsOf 5 = 1 := by kernel_rfl
theorem cz94 : Tryz.prog.cellsOf 94 = 5 := by kernel_rfl
theorem cz25 : Tryz.prog.cellsOf 25 = 1 := by kernel_rfl
def ok_Constituent (a : ua0) : Prop := (okI .i64) a.Exp ∧ (okI .i64) a.Dim ∧ (okI .i64) a.Sign ∧ okB a.Odd ∧ (okI .i64) a.Oddity
def up9 (a : A5u8) : Prop := (okI .u8) a.x0 ∧ (okI .u8) a.x1 ∧ (okI .u8) a.x2 ∧ (okI .u8) a.x3 ∧ (okI .u8) a.x4
theorem dat5 (m : Nat) (cs : List CV) (h : Dat Tryz.prog m 5 cs) : ∃ a : Int, cs = zu a ∧ (okI .u8) a :=
  dat_int Tryz.underlying5 h
theorem dat94 (m : Nat) (cs : List CV) (h : Dat Tryz.prog m 94 cs) : ∃ a : A5u8, cs = zA a ∧ up9 a :=
  by
  obtain ⟨hl, m, hf⟩ := dat_array Tryz.underlying94 cz94 cz5 h
  obtain ⟨c0, c1, c2, c3, c4, rfl⟩ : ∃ c0 c1 c2 c3 c4, cs = [c0, c1, c2, c3, c4] := by
    match cs, hl with
    | [c0, c1, c2, c3, c4], _ => exact ⟨_, _, _, _, _, rfl⟩
  have h0 : Dat Tryz.prog m 5 [c0] := hf 0 (by decide)
  have h1 : Dat Tryz.prog m 5 [c1] := hf 1 (by decide)
  have h2 : Dat Tryz.prog m 5 [c2] := hf 2 (by decide)
  have h3 : Dat Tryz.prog m 5 [c3] := hf 3 (by decide)
  have h4 : Dat Tryz.prog m 5 [c4] := hf 4 (by decide)
  obtain ⟨x0, y0, z0⟩ := dat5 m _ h0
  obtain rfl := List.head_eq_of_cons_eq y0
  obtain ⟨x1, y1, z1⟩ := dat5 m _ h1
  obtain rfl := List.head_eq_of_cons_eq y1
  obtain ⟨x2, y2, z2⟩ := dat5 m _ h2
  obtain rfl := List.head_eq_of_cons_eq y2
  obtain ⟨x3, y3, z3⟩ := dat5 m _ h3
  obtain rfl := List.head_eq_of_cons_eq y3
  obtain ⟨x4, y4, z4⟩ := dat5 m _ h4
  obtain rfl := List.head_eq_of_cons_eq y4
  exact ⟨⟨x0, x1, x2, x3, x4⟩, rfl, z0, z1, z2, z3, z4⟩
theorem dat25 (m : Nat) (cs : List CV) (h : Dat Tryz.prog m 25 cs) : ∃ a : List A5u8, cs = zL a ∧ (okL up9) a :=
  dat_list (enc := zA) Tryz.underlying25 cz94 (fun m r h => dat94 m r h) h
theorem F1 (m : Nat) (xs : List CV) (h : DatAll Tryz.prog m [27] xs) : ∃ (p0Pr : Int) (p0P : List A5u8), xs = [CV.agg [CV.int .u8 p0Pr, CV.ro 5 (List.map zA p0P) none]] ∧ (okI .u8) p0Pr ∧ (okL up9) p0P := by
  obtain ⟨x0, rfl⟩ : ∃ x0, xs = [x0] := by
    match xs, h with
    | [x0], _ => exact ⟨_, rfl⟩
  obtain ⟨⟨d0, e0, h0⟩, _⟩ := h
  rw [asCV_struct Tryz.underlying27] at e0
  obtain ⟨hl0, m0, hf0⟩ := dat_struct Tryz.underlying27 cz27 h0
  obtain ⟨c0_0, c0_1, rfl⟩ : ∃ c0_0 c0_1, d0 = [c0_0, c0_1] := by
    match d0, hl0 with
    | [c0_0, c0_1], _ => exact ⟨_, _, rfl⟩
  have g0_0 := hf0 0 _ rfl
  change Dat Tryz.prog m0 5 (List.take (Tryz.prog.cellsOf 5) (List.drop 0 [c0_0, c0_1])) at g0_0
  rw [cz5] at g0_0
  have g0_1 := hf0 1 _ rfl
  change Dat Tryz.prog m0 25 (List.take (Tryz.prog.cellsOf 25) (List.drop 1 [c0_0, c0_1])) at g0_1
  rw [cz25] at g0_1
  obtain ⟨v0, y0, z0⟩ := dat5 m0 _ g0_0
  obtain rfl := List.head_eq_of_cons_eq y0
  obtain ⟨v1, y1, z1⟩ := dat25 m0 _ g0_1
  obtain rfl := List.head_eq_of_cons_eq y1
  exact ⟨v0, v1, by rw [e0], z0, z1⟩
end Go.Cn
