import Derived.Test.YtgbijhccgmmkgaaGreatDoorCb3
import Derived.Test.YtgbijhccgmmkgaaGreatDoorProg
set_option linter.unusedVariables false
set_option maxRecDepth 100000
set_option maxHeartbeats 0
noncomputable section
namespace Go.Cn
theorem lR {n m : Nat} (h : Nat.ble n m = true) : n ≤ m := Nat.le_of_ble_eq_true h
open Go.Proofs
structure Constituent where
  Exp : Int
  Dim : Int
  Sign : Int
  Odd : Bool
  Oddity : Int
  deriving DecidableEq, Inhabited
structure A4u8 where
  x0 : Int
  x1 : Int
  x2 : Int
  x3 : Int
  deriving DecidableEq, Inhabited
structure Local where
  Prime : Int
  List : List Constituent
  deriving DecidableEq, Inhabited
structure A5u8 where
  x0 : Int
  x1 : Int
  x2 : Int
  x3 : Int
  x4 : Int
  deriving DecidableEq, Inhabited
structure Symbol where
  Prime : Int
  Parts : List A5u8
  deriving DecidableEq, Inhabited
def zi (a : Int) : List CV := [CV.int .i64 a]
theorem zi_len (a : Int) : (zi a).length = 1 := rfl
theorem zi_clean (a : Int) : ∀ x ∈ zi a, Clean x := cleanL_mem (xs := [CV.int .i64 a]) ⟨clean_int, trivial⟩
theorem zi_still (a : Int) : Still (zi a) := ⟨fun g => rfl, ⟨trivial, trivial⟩⟩
def zC (a : Constituent) : List CV := [CV.int .i64 a.Exp, CV.int .i64 a.Dim, CV.int .i64 a.Sign, CV.bool a.Odd, CV.int .i64 a.Oddity]
theorem zC_len (a : Constituent) : (zC a).length = 5 := rfl
theorem zC_clean (a : Constituent) : ∀ x ∈ zC a, Clean x := cleanL_mem (xs := [CV.int .i64 a.Exp, CV.int .i64 a.Dim, CV.int .i64 a.Sign, CV.bool a.Odd, CV.int .i64 a.Oddity]) ⟨clean_int, clean_int, clean_int, clean_bool, clean_int, trivial⟩
theorem zC_alone (Z : Prop) (a : Constituent) : Alone Z (zC a) := ⟨fun n => rfl, ⟨trivial, trivial, trivial, trivial, trivial, trivial⟩, fun h => ⟨trivial, trivial, trivial, trivial, trivial, trivial⟩⟩
theorem zC_still (a : Constituent) : Still (zC a) := ⟨fun g => rfl, ⟨trivial, trivial, trivial, trivial, trivial, trivial⟩⟩
def zA (a : A5u8) : List CV := [CV.int .u8 a.x0, CV.int .u8 a.x1, CV.int .u8 a.x2, CV.int .u8 a.x3, CV.int .u8 a.x4]
theorem zA_clean (a : A5u8) : ∀ x ∈ zA a, Clean x := cleanL_mem (xs := [CV.int .u8 a.x0, CV.int .u8 a.x1, CV.int .u8 a.x2, CV.int .u8 a.x3, CV.int .u8 a.x4]) ⟨clean_int, clean_int, clean_int, clean_int, clean_int, trivial⟩
def zLi (a : List Int) : List CV := [CV.ro 1 (List.map zi a) none]
theorem zLi_len (a : List Int) : (zLi a).length = 1 := rfl
theorem zLi_clean (a : List Int) : ∀ x ∈ zLi a, Clean x := cleanL_mem (xs := [CV.ro 1 (List.map zi a) none]) ⟨(clean_map zi_clean), trivial⟩
theorem zLi_still (a : List Int) : Still (zLi a) := ⟨fun g => rfl, ⟨(clean_map zi_clean), trivial⟩⟩
def zb (a : Bool) : List CV := [CV.bool a]
def zu (a : Int) : List CV := [CV.int .u8 a]
def zLC (a : List Constituent) : List CV := [CV.ro 5 (List.map zC a) none]
def zL (a : List A5u8) : List CV := [CV.ro 5 (List.map zA a) none]
def zi8 (a : Int) : List CV := [CV.int .i8 a]
theorem sz3 : tsize Tryz.prog 3 = some 1 := tsize_of Tryz.type3
theorem ag3 : aggT Tryz.prog 3 = some false := by kernel_rfl
theorem sz83 : tsize Tryz.prog 83 = some 5 := tsize_of Tryz.type83
theorem nz30 : noZeros Tryz.prog (some 30) = true := by kernel_rfl
theorem sz23 : tsize Tryz.prog 23 = some 5 := tsize_of Tryz.type23
theorem eq23_neq (x y : Constituent) : cbin Tryz.prog .neq 23 (.agg (zC x)) (.agg (zC y)) = some (.bool (!decide (x = y))) := by
  have h : ∀ (a b : Constituent), cbin Tryz.prog .neq 23 (.agg (zC a)) (.agg (zC b)) = (match ((if a.Exp = b.Exp then (if a.Dim = b.Dim then (if a.Sign = b.Sign then (if a.Odd = b.Odd then (if a.Oddity = b.Oddity then some true else some false) else some false) else some false) else some false) else some false)) with | some b => some (.bool !b) | none => none) := fun a b => by kernel_rfl
  rw [h]
  obtain ⟨x0, x1, x2, x3, x4⟩ := x
  obtain ⟨y0, y1, y2, y3, y4⟩ := y
  by_cases h0 : x0 = y0 <;> by_cases h1 : x1 = y1 <;> by_cases h2 : x2 = y2 <;> by_cases h3 : x3 = y3 <;> by_cases h4 : x4 = y4 <;> simp [h0, h1, h2, h3, h4]
theorem nz54 : noZeros Tryz.prog (some 54) = true := by kernel_rfl
theorem sz28 : tsize Tryz.prog 28 = some 1 := tsize_of Tryz.type28
theorem ag28 : aggT Tryz.prog 28 = some false := by kernel_rfl
theorem nz28 : noZeros Tryz.prog (some 28) = true := by kernel_rfl
theorem cz5 : Tryz.prog.cellsOf 5 = 1 := by kernel_rfl
theorem cz35 : Tryz.prog.cellsOf 35 = 2 := by kernel_rfl
theorem cz83 : Tryz.prog.cellsOf 83 = 5 := by kernel_rfl
theorem cz33 : Tryz.prog.cellsOf 33 = 1 := by kernel_rfl
theorem dat5 (m : Nat) (cs : List CV) (h : Dat Tryz.prog m 5 cs) : ∃ a : Int, cs = zu a ∧ (okI .u8) a :=
  dat_int Tryz.underlying5 h
def ok_Constituent (a : Constituent) : Prop := (okI .i64) a.Exp ∧ (okI .i64) a.Dim ∧ (okI .i64) a.Sign ∧ okB a.Odd ∧ (okI .i64) a.Oddity
def ok_A5u8 (a : A5u8) : Prop := (okI .u8) a.x0 ∧ (okI .u8) a.x1 ∧ (okI .u8) a.x2 ∧ (okI .u8) a.x3 ∧ (okI .u8) a.x4
theorem dat83 (m : Nat) (cs : List CV) (h : Dat Tryz.prog m 83 cs) : ∃ a : A5u8, cs = zA a ∧ ok_A5u8 a :=
  by
  obtain ⟨hl, m, hf⟩ := dat_array Tryz.underlying83 cz83 cz5 h
  obtain ⟨c0, c1, c2, c3, c4, rfl⟩ : ∃ c0 c1 c2 c3 c4, cs = [c0, c1, c2, c3, c4] := by
    match cs, hl with
    | [c0, c1, c2, c3, c4], _ => exact ⟨_, _, _, _, _, rfl⟩
  have h0 : Dat Tryz.prog m 5 [c0] := hf 0 (by decide)
  have h1 : Dat Tryz.prog m 5 [c1] := hf 1 (by decide)
  have h2 : Dat Tryz.prog m 5 [c2] := hf 2 (by decide)
  have h3 : Dat Tryz.prog m 5 [c3] := hf 3 (by decide)
  have h4 : Dat Tryz.prog m 5 [c4] := hf 4 (by decide)
  obtain ⟨x0, y0, z0⟩ := dat5 m _ h0
  obtain rfl := List.head_eq_of_cons_eq y0
  obtain ⟨x1, y1, z1⟩ := dat5 m _ h1
  obtain rfl := List.head_eq_of_cons_eq y1
  obtain ⟨x2, y2, z2⟩ := dat5 m _ h2
  obtain rfl := List.head_eq_of_cons_eq y2
  obtain ⟨x3, y3, z3⟩ := dat5 m _ h3
  obtain rfl := List.head_eq_of_cons_eq y3
  obtain ⟨x4, y4, z4⟩ := dat5 m _ h4
  obtain rfl := List.head_eq_of_cons_eq y4
  exact ⟨⟨x0, x1, x2, x3, x4⟩, rfl, z0, z1, z2, z3, z4⟩
theorem dat33 (m : Nat) (cs : List CV) (h : Dat Tryz.prog m 33 cs) : ∃ a : List A5u8, cs = zL a ∧ (okL ok_A5u8) a :=
  dat_list (enc := zA) Tryz.underlying33 cz83 (fun m r h => dat83 m r h) h
theorem F1 (m : Nat) (xs : List CV) (h : DatAll Tryz.prog m [35, 5] xs) : ∃ (p0Pr : Int) (p0P : List A5u8) (p1 : Int), xs = [CV.agg [CV.int .u8 p0Pr, CV.ro 5 (List.map zA p0P) none], CV.int .u8 p1] ∧ (okI .u8) p0Pr ∧ (okL ok_A5u8) p0P ∧ (okI .u8) p1 := by
  obtain ⟨x0, x1, rfl⟩ : ∃ x0 x1, xs = [x0, x1] := by
    match xs, h with
    | [x0, x1], _ => exact ⟨_, _, rfl⟩
  obtain ⟨⟨d0, e0, h0⟩, ⟨d1, e1, h1⟩, _⟩ := h
  rw [asCV_struct Tryz.underlying35] at e0
  obtain ⟨hl0, m0, hf0⟩ := dat_struct Tryz.underlying35 cz35 h0
  obtain ⟨c0_0, c0_1, rfl⟩ : ∃ c0_0 c0_1, d0 = [c0_0, c0_1] := by
    match d0, hl0 with
    | [c0_0, c0_1], _ => exact ⟨_, _, rfl⟩
  have g0_0 := hf0 0 _ rfl
  change Dat Tryz.prog m0 5 (List.take (Tryz.prog.cellsOf 5) (List.drop 0 [c0_0, c0_1])) at g0_0
  rw [cz5] at g0_0
  have g0_1 := hf0 1 _ rfl
  change Dat Tryz.prog m0 33 (List.take (Tryz.prog.cellsOf 33) (List.drop 1 [c0_0, c0_1])) at g0_1
  rw [cz33] at g0_1
  obtain ⟨v0, y0, z0⟩ := dat5 m0 _ g0_0
  obtain rfl := List.head_eq_of_cons_eq y0
  obtain ⟨v1, y1, z1⟩ := dat33 m0 _ g0_1
  obtain rfl := List.head_eq_of_cons_eq y1
  obtain ⟨v2, y2, z2⟩ := dat5 m d1 h1
  subst y2
  replace e1 := e1.trans (asCV_int Tryz.underlying5)
  exact ⟨v0, v1, v2, by rw [e0, e1], z0, z1, z2⟩
end Go.Cn
