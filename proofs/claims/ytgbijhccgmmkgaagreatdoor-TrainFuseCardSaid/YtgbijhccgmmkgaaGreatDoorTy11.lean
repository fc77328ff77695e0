import Derived.Test.YtgbijhccgmmkgaaGreatDoorCb3
import Derived.Test.YtgbijhccgmmkgaaGreatDoorProg
set_option linter.unusedVariables false
set_option maxRecDepth 100000
set_option maxHeartbeats 0
noncomputable section
namespace Go.Cn
open Go.Proofs
structure Constituent where
  Exp : Int
  Dim : Int
  Sign : Int
  Odd : Bool
  Oddity : Int
  deriving DecidableEq, Inhabited
structure A4u8 where
  x0 : Int
  x1 : Int
  x2 : Int
  x3 : Int
  deriving DecidableEq, Inhabited
structure Local where
  Prime : Int
  List : List Constituent
  deriving DecidableEq, Inhabited
structure A5u8 where
  x0 : Int
  x1 : Int
  x2 : Int
  x3 : Int
  x4 : Int
  deriving DecidableEq, Inhabited
structure Symbol where
  Prime : Int
  Parts : List A5u8
  deriving DecidableEq, Inhabited
noncomputable def enc_i64 (a : Int) : List CV := [CV.int .i64 a]
theorem enc_i64_len (a : Int) : (enc_i64 a).length = 1 := rfl
theorem enc_i64_clean (a : Int) : ∀ x ∈ enc_i64 a, Clean x := cleanL_mem (xs := [CV.int .i64 a]) ⟨clean_int, trivial⟩
theorem enc_i64_alone (Z : Prop) (a : Int) : Alone Z (enc_i64 a) := ⟨fun n => rfl, ⟨trivial, trivial⟩, fun h => ⟨trivial, trivial⟩⟩
theorem enc_i64_still (a : Int) : Still (enc_i64 a) := ⟨fun g => rfl, ⟨trivial, trivial⟩⟩
noncomputable def enc_Constituent (a : Constituent) : List CV := [CV.int .i64 a.Exp, CV.int .i64 a.Dim, CV.int .i64 a.Sign, CV.bool a.Odd, CV.int .i64 a.Oddity]
theorem enc_Constituent_len (a : Constituent) : (enc_Constituent a).length = 5 := rfl
theorem enc_Constituent_clean (a : Constituent) : ∀ x ∈ enc_Constituent a, Clean x := cleanL_mem (xs := [CV.int .i64 a.Exp, CV.int .i64 a.Dim, CV.int .i64 a.Sign, CV.bool a.Odd, CV.int .i64 a.Oddity]) ⟨clean_int, clean_int, clean_int, clean_bool, clean_int, trivial⟩
theorem enc_Constituent_alone (Z : Prop) (a : Constituent) : Alone Z (enc_Constituent a) := ⟨fun n => rfl, ⟨trivial, trivial, trivial, trivial, trivial, trivial⟩, fun h => ⟨trivial, trivial, trivial, trivial, trivial, trivial⟩⟩
theorem enc_Constituent_still (a : Constituent) : Still (enc_Constituent a) := ⟨fun g => rfl, ⟨trivial, trivial, trivial, trivial, trivial, trivial⟩⟩
noncomputable def enc_A5u8 (a : A5u8) : List CV := [CV.int .u8 a.x0, CV.int .u8 a.x1, CV.int .u8 a.x2, CV.int .u8 a.x3, CV.int .u8 a.x4]
theorem enc_A5u8_len (a : A5u8) : (enc_A5u8 a).length = 5 := rfl
theorem enc_A5u8_clean (a : A5u8) : ∀ x ∈ enc_A5u8 a, Clean x := cleanL_mem (xs := [CV.int .u8 a.x0, CV.int .u8 a.x1, CV.int .u8 a.x2, CV.int .u8 a.x3, CV.int .u8 a.x4]) ⟨clean_int, clean_int, clean_int, clean_int, clean_int, trivial⟩
theorem enc_A5u8_alone (Z : Prop) (a : A5u8) : Alone Z (enc_A5u8 a) := ⟨fun n => rfl, ⟨trivial, trivial, trivial, trivial, trivial, trivial⟩, fun h => ⟨trivial, trivial, trivial, trivial, trivial, trivial⟩⟩
theorem enc_A5u8_still (a : A5u8) : Still (enc_A5u8 a) := ⟨fun g => rfl, ⟨trivial, trivial, trivial, trivial, trivial, trivial⟩⟩
noncomputable def enc_Li64 (a : List Int) : List CV := [CV.ro 1 (List.map enc_i64 a) none]
theorem enc_Li64_len (a : List Int) : (enc_Li64 a).length = 1 := rfl
theorem enc_Li64_clean (a : List Int) : ∀ x ∈ enc_Li64 a, Clean x := cleanL_mem (xs := [CV.ro 1 (List.map enc_i64 a) none]) ⟨(clean_map enc_i64_clean), trivial⟩
theorem enc_Li64_alone (Z : Prop) (hZ : ¬ Z) (a : List Int) : Alone Z (enc_Li64 a) := ⟨fun n => rfl, ⟨(clean_map enc_i64_clean), trivial⟩, fun h => (hZ h).elim⟩
theorem enc_Li64_still (a : List Int) : Still (enc_Li64 a) := ⟨fun g => rfl, ⟨(clean_map enc_i64_clean), trivial⟩⟩
noncomputable def enc_bool (a : Bool) : List CV := [CV.bool a]
theorem enc_bool_len (a : Bool) : (enc_bool a).length = 1 := rfl
theorem enc_bool_clean (a : Bool) : ∀ x ∈ enc_bool a, Clean x := cleanL_mem (xs := [CV.bool a]) ⟨clean_bool, trivial⟩
theorem enc_bool_alone (Z : Prop) (a : Bool) : Alone Z (enc_bool a) := ⟨fun n => rfl, ⟨trivial, trivial⟩, fun h => ⟨trivial, trivial⟩⟩
theorem enc_bool_still (a : Bool) : Still (enc_bool a) := ⟨fun g => rfl, ⟨trivial, trivial⟩⟩
noncomputable def enc_u8 (a : Int) : List CV := [CV.int .u8 a]
theorem enc_u8_len (a : Int) : (enc_u8 a).length = 1 := rfl
theorem enc_u8_clean (a : Int) : ∀ x ∈ enc_u8 a, Clean x := cleanL_mem (xs := [CV.int .u8 a]) ⟨clean_int, trivial⟩
theorem enc_u8_alone (Z : Prop) (a : Int) : Alone Z (enc_u8 a) := ⟨fun n => rfl, ⟨trivial, trivial⟩, fun h => ⟨trivial, trivial⟩⟩
theorem enc_u8_still (a : Int) : Still (enc_u8 a) := ⟨fun g => rfl, ⟨trivial, trivial⟩⟩
noncomputable def enc_LConstituent (a : List Constituent) : List CV := [CV.ro 5 (List.map enc_Constituent a) none]
theorem enc_LConstituent_len (a : List Constituent) : (enc_LConstituent a).length = 1 := rfl
theorem enc_LConstituent_clean (a : List Constituent) : ∀ x ∈ enc_LConstituent a, Clean x := cleanL_mem (xs := [CV.ro 5 (List.map enc_Constituent a) none]) ⟨(clean_map enc_Constituent_clean), trivial⟩
theorem enc_LConstituent_alone (Z : Prop) (hZ : ¬ Z) (a : List Constituent) : Alone Z (enc_LConstituent a) := ⟨fun n => rfl, ⟨(clean_map enc_Constituent_clean), trivial⟩, fun h => (hZ h).elim⟩
theorem enc_LConstituent_still (a : List Constituent) : Still (enc_LConstituent a) := ⟨fun g => rfl, ⟨(clean_map enc_Constituent_clean), trivial⟩⟩
noncomputable def enc_LA5u8 (a : List A5u8) : List CV := [CV.ro 5 (List.map enc_A5u8 a) none]
theorem enc_LA5u8_len (a : List A5u8) : (enc_LA5u8 a).length = 1 := rfl
theorem enc_LA5u8_clean (a : List A5u8) : ∀ x ∈ enc_LA5u8 a, Clean x := cleanL_mem (xs := [CV.ro 5 (List.map enc_A5u8 a) none]) ⟨(clean_map enc_A5u8_clean), trivial⟩
theorem enc_LA5u8_alone (Z : Prop) (hZ : ¬ Z) (a : List A5u8) : Alone Z (enc_LA5u8 a) := ⟨fun n => rfl, ⟨(clean_map enc_A5u8_clean), trivial⟩, fun h => (hZ h).elim⟩
theorem enc_LA5u8_still (a : List A5u8) : Still (enc_LA5u8 a) := ⟨fun g => rfl, ⟨(clean_map enc_A5u8_clean), trivial⟩⟩
noncomputable def enc_i8 (a : Int) : List CV := [CV.int .i8 a]
theorem enc_i8_len (a : Int) : (enc_i8 a).length = 1 := rfl
theorem enc_i8_clean (a : Int) : ∀ x ∈ enc_i8 a, Clean x := cleanL_mem (xs := [CV.int .i8 a]) ⟨clean_int, trivial⟩
theorem enc_i8_alone (Z : Prop) (a : Int) : Alone Z (enc_i8 a) := ⟨fun n => rfl, ⟨trivial, trivial⟩, fun h => ⟨trivial, trivial⟩⟩
theorem enc_i8_still (a : Int) : Still (enc_i8 a) := ⟨fun g => rfl, ⟨trivial, trivial⟩⟩
theorem sz3 : tsize Tryz.prog 3 = some 1 := tsize_of Tryz.type3
theorem ag3 : aggT Tryz.prog 3 = some false := by kernel_rfl
theorem sz83 : tsize Tryz.prog 83 = some 5 := tsize_of Tryz.type83
theorem nz30 : noZeros Tryz.prog (some 30) = true := by kernel_rfl
theorem sz23 : tsize Tryz.prog 23 = some 5 := tsize_of Tryz.type23
theorem eq23_eql (x y : Constituent) : cbin Tryz.prog .eql 23 (.agg (enc_Constituent x)) (.agg (enc_Constituent y)) = some (.bool (decide (x = y))) := by
  have h : ∀ (a b : Constituent), cbin Tryz.prog .eql 23 (.agg (enc_Constituent a)) (.agg (enc_Constituent b)) = (match ((if a.Exp = b.Exp then (if a.Dim = b.Dim then (if a.Sign = b.Sign then (if a.Odd = b.Odd then (if a.Oddity = b.Oddity then some true else some false) else some false) else some false) else some false) else some false)) with | some b => some (.bool b) | none => none) := fun a b => by kernel_rfl
  rw [h]
  obtain ⟨x0, x1, x2, x3, x4⟩ := x
  obtain ⟨y0, y1, y2, y3, y4⟩ := y
  by_cases h0 : x0 = y0 <;> by_cases h1 : x1 = y1 <;> by_cases h2 : x2 = y2 <;> by_cases h3 : x3 = y3 <;> by_cases h4 : x4 = y4 <;> simp [h0, h1, h2, h3, h4]
theorem eq23_neq (x y : Constituent) : cbin Tryz.prog .neq 23 (.agg (enc_Constituent x)) (.agg (enc_Constituent y)) = some (.bool (!decide (x = y))) := by
  have h : ∀ (a b : Constituent), cbin Tryz.prog .neq 23 (.agg (enc_Constituent a)) (.agg (enc_Constituent b)) = (match ((if a.Exp = b.Exp then (if a.Dim = b.Dim then (if a.Sign = b.Sign then (if a.Odd = b.Odd then (if a.Oddity = b.Oddity then some true else some false) else some false) else some false) else some false) else some false)) with | some b => some (.bool !b) | none => none) := fun a b => by kernel_rfl
  rw [h]
  obtain ⟨x0, x1, x2, x3, x4⟩ := x
  obtain ⟨y0, y1, y2, y3, y4⟩ := y
  by_cases h0 : x0 = y0 <;> by_cases h1 : x1 = y1 <;> by_cases h2 : x2 = y2 <;> by_cases h3 : x3 = y3 <;> by_cases h4 : x4 = y4 <;> simp [h0, h1, h2, h3, h4]
theorem sz2 : tsize Tryz.prog 2 = some 1 := tsize_of Tryz.type2
theorem ag2 : aggT Tryz.prog 2 = some false := by kernel_rfl
theorem nz54 : noZeros Tryz.prog (some 54) = true := by kernel_rfl
theorem sz28 : tsize Tryz.prog 28 = some 1 := tsize_of Tryz.type28
theorem ag28 : aggT Tryz.prog 28 = some false := by kernel_rfl
theorem nz28 : noZeros Tryz.prog (some 28) = true := by kernel_rfl
theorem ag4 : aggT Tryz.prog 4 = some false := by kernel_rfl
theorem cz23 : Tryz.prog.cellsOf 23 = 5 := by kernel_rfl
theorem cz3 : Tryz.prog.cellsOf 3 = 1 := by kernel_rfl
theorem cz4 : Tryz.prog.cellsOf 4 = 1 := by kernel_rfl
theorem cz24 : Tryz.prog.cellsOf 24 = 4 := by kernel_rfl
theorem cz5 : Tryz.prog.cellsOf 5 = 1 := by kernel_rfl
theorem cz32 : Tryz.prog.cellsOf 32 = 2 := by kernel_rfl
theorem cz2 : Tryz.prog.cellsOf 2 = 1 := by kernel_rfl
theorem cz30 : Tryz.prog.cellsOf 30 = 1 := by kernel_rfl
theorem cz35 : Tryz.prog.cellsOf 35 = 2 := by kernel_rfl
theorem cz83 : Tryz.prog.cellsOf 83 = 5 := by kernel_rfl
theorem cz33 : Tryz.prog.cellsOf 33 = 1 := by kernel_rfl
theorem dat3 (m : Nat) (cs : List CV) (h : Dat Tryz.prog m 3 cs) : ∃ a : Int, cs = enc_i64 a ∧ (okI .i64) a :=
  dat_int Tryz.underlying3 h
theorem dat4 (m : Nat) (cs : List CV) (h : Dat Tryz.prog m 4 cs) : ∃ a : Bool, cs = enc_bool a ∧ okB a :=
  dat_bool Tryz.underlying4 h
theorem dat5 (m : Nat) (cs : List CV) (h : Dat Tryz.prog m 5 cs) : ∃ a : Int, cs = enc_u8 a ∧ (okI .u8) a :=
  dat_int Tryz.underlying5 h
theorem Fquadformlaw27_TrainLegal_args (m : Nat) (xs : List CV) (h : DatAll Tryz.prog m [23, 24, 4, 4] xs) : ∃ (p0_Exp : Int) (p0_Dim : Int) (p0_Sign : Int) (p0_Odd : Bool) (p0_Oddity : Int) (p1_x0 : Int) (p1_x1 : Int) (p1_x2 : Int) (p1_x3 : Int) (p2 : Bool) (p3 : Bool), xs = [CV.agg [CV.int .i64 p0_Exp, CV.int .i64 p0_Dim, CV.int .i64 p0_Sign, CV.bool p0_Odd, CV.int .i64 p0_Oddity], CV.agg [CV.int .u8 p1_x0, CV.int .u8 p1_x1, CV.int .u8 p1_x2, CV.int .u8 p1_x3], CV.bool p2, CV.bool p3] ∧ (okI .i64) p0_Exp ∧ (okI .i64) p0_Dim ∧ (okI .i64) p0_Sign ∧ okB p0_Odd ∧ (okI .i64) p0_Oddity ∧ (okI .u8) p1_x0 ∧ (okI .u8) p1_x1 ∧ (okI .u8) p1_x2 ∧ (okI .u8) p1_x3 ∧ okB p2 ∧ okB p3 := by
  obtain ⟨x0, x1, x2, x3, rfl⟩ : ∃ x0 x1 x2 x3, xs = [x0, x1, x2, x3] := by
    match xs, h with
    | [x0, x1, x2, x3], _ => exact ⟨_, _, _, _, rfl⟩
  obtain ⟨⟨d0, e0, h0⟩, ⟨d1, e1, h1⟩, ⟨d2, e2, h2⟩, ⟨d3, e3, h3⟩, _⟩ := h
  rw [asCV_struct Tryz.underlying23] at e0
  obtain ⟨hl0, m0, hf0⟩ := dat_struct Tryz.underlying23 cz23 h0
  obtain ⟨c0_0, c0_1, c0_2, c0_3, c0_4, rfl⟩ : ∃ c0_0 c0_1 c0_2 c0_3 c0_4, d0 = [c0_0, c0_1, c0_2, c0_3, c0_4] := by
    match d0, hl0 with
    | [c0_0, c0_1, c0_2, c0_3, c0_4], _ => exact ⟨_, _, _, _, _, rfl⟩
  have g0_0 := hf0 0 _ rfl
  change Dat Tryz.prog m0 3 (List.take (Tryz.prog.cellsOf 3) (List.drop 0 [c0_0, c0_1, c0_2, c0_3, c0_4])) at g0_0
  rw [cz3] at g0_0
  have g0_1 := hf0 1 _ rfl
  change Dat Tryz.prog m0 3 (List.take (Tryz.prog.cellsOf 3) (List.drop 1 [c0_0, c0_1, c0_2, c0_3, c0_4])) at g0_1
  rw [cz3] at g0_1
  have g0_2 := hf0 2 _ rfl
  change Dat Tryz.prog m0 3 (List.take (Tryz.prog.cellsOf 3) (List.drop 2 [c0_0, c0_1, c0_2, c0_3, c0_4])) at g0_2
  rw [cz3] at g0_2
  have g0_3 := hf0 3 _ rfl
  change Dat Tryz.prog m0 4 (List.take (Tryz.prog.cellsOf 4) (List.drop 3 [c0_0, c0_1, c0_2, c0_3, c0_4])) at g0_3
  rw [cz4] at g0_3
  have g0_4 := hf0 4 _ rfl
  change Dat Tryz.prog m0 3 (List.take (Tryz.prog.cellsOf 3) (List.drop 4 [c0_0, c0_1, c0_2, c0_3, c0_4])) at g0_4
  rw [cz3] at g0_4
  obtain ⟨v0, y0, z0⟩ := dat3 m0 _ g0_0
  obtain rfl := List.head_eq_of_cons_eq y0
  obtain ⟨v1, y1, z1⟩ := dat3 m0 _ g0_1
  obtain rfl := List.head_eq_of_cons_eq y1
  obtain ⟨v2, y2, z2⟩ := dat3 m0 _ g0_2
  obtain rfl := List.head_eq_of_cons_eq y2
  obtain ⟨v3, y3, z3⟩ := dat4 m0 _ g0_3
  obtain rfl := List.head_eq_of_cons_eq y3
  obtain ⟨v4, y4, z4⟩ := dat3 m0 _ g0_4
  obtain rfl := List.head_eq_of_cons_eq y4
  rw [asCV_array Tryz.underlying24] at e1
  obtain ⟨hl1, m1, hf1⟩ := dat_array Tryz.underlying24 cz24 cz5 h1
  obtain ⟨c1_0, c1_1, c1_2, c1_3, rfl⟩ : ∃ c1_0 c1_1 c1_2 c1_3, d1 = [c1_0, c1_1, c1_2, c1_3] := by
    match d1, hl1 with
    | [c1_0, c1_1, c1_2, c1_3], _ => exact ⟨_, _, _, _, rfl⟩
  have g1_0 : Dat Tryz.prog m1 5 [c1_0] := hf1 0 (by decide)
  have g1_1 : Dat Tryz.prog m1 5 [c1_1] := hf1 1 (by decide)
  have g1_2 : Dat Tryz.prog m1 5 [c1_2] := hf1 2 (by decide)
  have g1_3 : Dat Tryz.prog m1 5 [c1_3] := hf1 3 (by decide)
  obtain ⟨v5, y5, z5⟩ := dat5 m1 _ g1_0
  obtain rfl := List.head_eq_of_cons_eq y5
  obtain ⟨v6, y6, z6⟩ := dat5 m1 _ g1_1
  obtain rfl := List.head_eq_of_cons_eq y6
  obtain ⟨v7, y7, z7⟩ := dat5 m1 _ g1_2
  obtain rfl := List.head_eq_of_cons_eq y7
  obtain ⟨v8, y8, z8⟩ := dat5 m1 _ g1_3
  obtain rfl := List.head_eq_of_cons_eq y8
  obtain ⟨v9, y9, z9⟩ := dat4 m d2 h2
  subst y9
  replace e2 := e2.trans (asCV_bool Tryz.underlying4)
  obtain ⟨v10, y10, z10⟩ := dat4 m d3 h3
  subst y10
  replace e3 := e3.trans (asCV_bool Tryz.underlying4)
  exact ⟨v0, v1, v2, v3, v4, v5, v6, v7, v8, v9, v10, by rw [e0, e1, e2, e3], z0, z1, z2, z3, z4, z5, z6, z7, z8, z9, z10⟩
theorem Fquadformlaw27_TrainLegalForms_args (m : Nat) (xs : List CV) (h : DatAll Tryz.prog m [5, 4, 5] xs) : ∃ (p0 : Int) (p1 : Bool) (p2 : Int), xs = [CV.int .u8 p0, CV.bool p1, CV.int .u8 p2] ∧ (okI .u8) p0 ∧ okB p1 ∧ (okI .u8) p2 := by
  obtain ⟨x0, x1, x2, rfl⟩ : ∃ x0 x1 x2, xs = [x0, x1, x2] := by
    match xs, h with
    | [x0, x1, x2], _ => exact ⟨_, _, _, rfl⟩
  obtain ⟨⟨d0, e0, h0⟩, ⟨d1, e1, h1⟩, ⟨d2, e2, h2⟩, _⟩ := h
  obtain ⟨v0, y0, z0⟩ := dat5 m d0 h0
  subst y0
  replace e0 := e0.trans (asCV_int Tryz.underlying5)
  obtain ⟨v1, y1, z1⟩ := dat4 m d1 h1
  subst y1
  replace e1 := e1.trans (asCV_bool Tryz.underlying4)
  obtain ⟨v2, y2, z2⟩ := dat5 m d2 h2
  subst y2
  replace e2 := e2.trans (asCV_int Tryz.underlying5)
  exact ⟨v0, v1, v2, by rw [e0, e1, e2], z0, z1, z2⟩
def ok_Constituent (a : Constituent) : Prop := (okI .i64) a.Exp ∧ (okI .i64) a.Dim ∧ (okI .i64) a.Sign ∧ okB a.Odd ∧ (okI .i64) a.Oddity
def ok_A5u8 (a : A5u8) : Prop := (okI .u8) a.x0 ∧ (okI .u8) a.x1 ∧ (okI .u8) a.x2 ∧ (okI .u8) a.x3 ∧ (okI .u8) a.x4
theorem dat2 (m : Nat) (cs : List CV) (h : Dat Tryz.prog m 2 cs) : ∃ a : Int, cs = enc_i64 a ∧ (okI .i64) a :=
  dat_int Tryz.underlying2 h
theorem dat23 (m : Nat) (cs : List CV) (h : Dat Tryz.prog m 23 cs) : ∃ a : Constituent, cs = enc_Constituent a ∧ ok_Constituent a :=
  by
  obtain ⟨hl, m, hf⟩ := dat_struct Tryz.underlying23 cz23 h
  obtain ⟨c0, c1, c2, c3, c4, rfl⟩ : ∃ c0 c1 c2 c3 c4, cs = [c0, c1, c2, c3, c4] := by
    match cs, hl with
    | [c0, c1, c2, c3, c4], _ => exact ⟨_, _, _, _, _, rfl⟩
  have h0 := hf 0 _ rfl
  change Dat Tryz.prog m 3 (List.take (Tryz.prog.cellsOf 3) (List.drop 0 [c0, c1, c2, c3, c4])) at h0
  rw [cz3] at h0
  have h1 := hf 1 _ rfl
  change Dat Tryz.prog m 3 (List.take (Tryz.prog.cellsOf 3) (List.drop 1 [c0, c1, c2, c3, c4])) at h1
  rw [cz3] at h1
  have h2 := hf 2 _ rfl
  change Dat Tryz.prog m 3 (List.take (Tryz.prog.cellsOf 3) (List.drop 2 [c0, c1, c2, c3, c4])) at h2
  rw [cz3] at h2
  have h3 := hf 3 _ rfl
  change Dat Tryz.prog m 4 (List.take (Tryz.prog.cellsOf 4) (List.drop 3 [c0, c1, c2, c3, c4])) at h3
  rw [cz4] at h3
  have h4 := hf 4 _ rfl
  change Dat Tryz.prog m 3 (List.take (Tryz.prog.cellsOf 3) (List.drop 4 [c0, c1, c2, c3, c4])) at h4
  rw [cz3] at h4
  obtain ⟨x0, y0, z0⟩ := dat3 m _ h0
  obtain rfl := List.head_eq_of_cons_eq y0
  obtain ⟨x1, y1, z1⟩ := dat3 m _ h1
  obtain rfl := List.head_eq_of_cons_eq y1
  obtain ⟨x2, y2, z2⟩ := dat3 m _ h2
  obtain rfl := List.head_eq_of_cons_eq y2
  obtain ⟨x3, y3, z3⟩ := dat4 m _ h3
  obtain rfl := List.head_eq_of_cons_eq y3
  obtain ⟨x4, y4, z4⟩ := dat3 m _ h4
  obtain rfl := List.head_eq_of_cons_eq y4
  exact ⟨⟨x0, x1, x2, x3, x4⟩, rfl, z0, z1, z2, z3, z4⟩
theorem dat30 (m : Nat) (cs : List CV) (h : Dat Tryz.prog m 30 cs) : ∃ a : List Constituent, cs = enc_LConstituent a ∧ (okL ok_Constituent) a :=
  dat_list (enc := enc_Constituent) Tryz.underlying30 cz23 (fun m r h => dat23 m r h) h
theorem dat83 (m : Nat) (cs : List CV) (h : Dat Tryz.prog m 83 cs) : ∃ a : A5u8, cs = enc_A5u8 a ∧ ok_A5u8 a :=
  by
  obtain ⟨hl, m, hf⟩ := dat_array Tryz.underlying83 cz83 cz5 h
  obtain ⟨c0, c1, c2, c3, c4, rfl⟩ : ∃ c0 c1 c2 c3 c4, cs = [c0, c1, c2, c3, c4] := by
    match cs, hl with
    | [c0, c1, c2, c3, c4], _ => exact ⟨_, _, _, _, _, rfl⟩
  have h0 : Dat Tryz.prog m 5 [c0] := hf 0 (by decide)
  have h1 : Dat Tryz.prog m 5 [c1] := hf 1 (by decide)
  have h2 : Dat Tryz.prog m 5 [c2] := hf 2 (by decide)
  have h3 : Dat Tryz.prog m 5 [c3] := hf 3 (by decide)
  have h4 : Dat Tryz.prog m 5 [c4] := hf 4 (by decide)
  obtain ⟨x0, y0, z0⟩ := dat5 m _ h0
  obtain rfl := List.head_eq_of_cons_eq y0
  obtain ⟨x1, y1, z1⟩ := dat5 m _ h1
  obtain rfl := List.head_eq_of_cons_eq y1
  obtain ⟨x2, y2, z2⟩ := dat5 m _ h2
  obtain rfl := List.head_eq_of_cons_eq y2
  obtain ⟨x3, y3, z3⟩ := dat5 m _ h3
  obtain rfl := List.head_eq_of_cons_eq y3
  obtain ⟨x4, y4, z4⟩ := dat5 m _ h4
  obtain rfl := List.head_eq_of_cons_eq y4
  exact ⟨⟨x0, x1, x2, x3, x4⟩, rfl, z0, z1, z2, z3, z4⟩
theorem dat33 (m : Nat) (cs : List CV) (h : Dat Tryz.prog m 33 cs) : ∃ a : List A5u8, cs = enc_LA5u8 a ∧ (okL ok_A5u8) a :=
  dat_list (enc := enc_A5u8) Tryz.underlying33 cz83 (fun m r h => dat83 m r h) h
theorem Fquadformlaw27_TrainSum_args (m : Nat) (xs : List CV) (h : DatAll Tryz.prog m [32, 32, 35, 35, 4] xs) : ∃ (p0_Prime : Int) (p0_List : List Constituent) (p1_Prime : Int) (p1_List : List Constituent) (p2_Prime : Int) (p2_Parts : List A5u8) (p3_Prime : Int) (p3_Parts : List A5u8) (p4 : Bool), xs = [CV.agg [CV.int .i64 p0_Prime, CV.ro 5 (List.map enc_Constituent p0_List) none], CV.agg [CV.int .i64 p1_Prime, CV.ro 5 (List.map enc_Constituent p1_List) none], CV.agg [CV.int .u8 p2_Prime, CV.ro 5 (List.map enc_A5u8 p2_Parts) none], CV.agg [CV.int .u8 p3_Prime, CV.ro 5 (List.map enc_A5u8 p3_Parts) none], CV.bool p4] ∧ (okI .i64) p0_Prime ∧ (okL ok_Constituent) p0_List ∧ (okI .i64) p1_Prime ∧ (okL ok_Constituent) p1_List ∧ (okI .u8) p2_Prime ∧ (okL ok_A5u8) p2_Parts ∧ (okI .u8) p3_Prime ∧ (okL ok_A5u8) p3_Parts ∧ okB p4 := by
  obtain ⟨x0, x1, x2, x3, x4, rfl⟩ : ∃ x0 x1 x2 x3 x4, xs = [x0, x1, x2, x3, x4] := by
    match xs, h with
    | [x0, x1, x2, x3, x4], _ => exact ⟨_, _, _, _, _, rfl⟩
  obtain ⟨⟨d0, e0, h0⟩, ⟨d1, e1, h1⟩, ⟨d2, e2, h2⟩, ⟨d3, e3, h3⟩, ⟨d4, e4, h4⟩, _⟩ := h
  rw [asCV_struct Tryz.underlying32] at e0
  obtain ⟨hl0, m0, hf0⟩ := dat_struct Tryz.underlying32 cz32 h0
  obtain ⟨c0_0, c0_1, rfl⟩ : ∃ c0_0 c0_1, d0 = [c0_0, c0_1] := by
    match d0, hl0 with
    | [c0_0, c0_1], _ => exact ⟨_, _, rfl⟩
  have g0_0 := hf0 0 _ rfl
  change Dat Tryz.prog m0 2 (List.take (Tryz.prog.cellsOf 2) (List.drop 0 [c0_0, c0_1])) at g0_0
  rw [cz2] at g0_0
  have g0_1 := hf0 1 _ rfl
  change Dat Tryz.prog m0 30 (List.take (Tryz.prog.cellsOf 30) (List.drop 1 [c0_0, c0_1])) at g0_1
  rw [cz30] at g0_1
  obtain ⟨v0, y0, z0⟩ := dat2 m0 _ g0_0
  obtain rfl := List.head_eq_of_cons_eq y0
  obtain ⟨v1, y1, z1⟩ := dat30 m0 _ g0_1
  obtain rfl := List.head_eq_of_cons_eq y1
  rw [asCV_struct Tryz.underlying32] at e1
  obtain ⟨hl1, m1, hf1⟩ := dat_struct Tryz.underlying32 cz32 h1
  obtain ⟨c1_0, c1_1, rfl⟩ : ∃ c1_0 c1_1, d1 = [c1_0, c1_1] := by
    match d1, hl1 with
    | [c1_0, c1_1], _ => exact ⟨_, _, rfl⟩
  have g1_0 := hf1 0 _ rfl
  change Dat Tryz.prog m1 2 (List.take (Tryz.prog.cellsOf 2) (List.drop 0 [c1_0, c1_1])) at g1_0
  rw [cz2] at g1_0
  have g1_1 := hf1 1 _ rfl
  change Dat Tryz.prog m1 30 (List.take (Tryz.prog.cellsOf 30) (List.drop 1 [c1_0, c1_1])) at g1_1
  rw [cz30] at g1_1
  obtain ⟨v2, y2, z2⟩ := dat2 m1 _ g1_0
  obtain rfl := List.head_eq_of_cons_eq y2
  obtain ⟨v3, y3, z3⟩ := dat30 m1 _ g1_1
  obtain rfl := List.head_eq_of_cons_eq y3
  rw [asCV_struct Tryz.underlying35] at e2
  obtain ⟨hl2, m2, hf2⟩ := dat_struct Tryz.underlying35 cz35 h2
  obtain ⟨c2_0, c2_1, rfl⟩ : ∃ c2_0 c2_1, d2 = [c2_0, c2_1] := by
    match d2, hl2 with
    | [c2_0, c2_1], _ => exact ⟨_, _, rfl⟩
  have g2_0 := hf2 0 _ rfl
  change Dat Tryz.prog m2 5 (List.take (Tryz.prog.cellsOf 5) (List.drop 0 [c2_0, c2_1])) at g2_0
  rw [cz5] at g2_0
  have g2_1 := hf2 1 _ rfl
  change Dat Tryz.prog m2 33 (List.take (Tryz.prog.cellsOf 33) (List.drop 1 [c2_0, c2_1])) at g2_1
  rw [cz33] at g2_1
  obtain ⟨v4, y4, z4⟩ := dat5 m2 _ g2_0
  obtain rfl := List.head_eq_of_cons_eq y4
  obtain ⟨v5, y5, z5⟩ := dat33 m2 _ g2_1
  obtain rfl := List.head_eq_of_cons_eq y5
  rw [asCV_struct Tryz.underlying35] at e3
  obtain ⟨hl3, m3, hf3⟩ := dat_struct Tryz.underlying35 cz35 h3
  obtain ⟨c3_0, c3_1, rfl⟩ : ∃ c3_0 c3_1, d3 = [c3_0, c3_1] := by
    match d3, hl3 with
    | [c3_0, c3_1], _ => exact ⟨_, _, rfl⟩
  have g3_0 := hf3 0 _ rfl
  change Dat Tryz.prog m3 5 (List.take (Tryz.prog.cellsOf 5) (List.drop 0 [c3_0, c3_1])) at g3_0
  rw [cz5] at g3_0
  have g3_1 := hf3 1 _ rfl
  change Dat Tryz.prog m3 33 (List.take (Tryz.prog.cellsOf 33) (List.drop 1 [c3_0, c3_1])) at g3_1
  rw [cz33] at g3_1
  obtain ⟨v6, y6, z6⟩ := dat5 m3 _ g3_0
  obtain rfl := List.head_eq_of_cons_eq y6
  obtain ⟨v7, y7, z7⟩ := dat33 m3 _ g3_1
  obtain rfl := List.head_eq_of_cons_eq y7
  obtain ⟨v8, y8, z8⟩ := dat4 m d4 h4
  subst y8
  replace e4 := e4.trans (asCV_bool Tryz.underlying4)
  exact ⟨v0, v1, v2, v3, v4, v5, v6, v7, v8, by rw [e0, e1, e2, e3, e4], z0, z1, z2, z3, z4, z5, z6, z7, z8⟩
theorem dat44 (m : Nat) (cs : List CV) (h : Dat Tryz.prog m 44 cs) : ∃ a : Int, cs = enc_i8 a ∧ (okI .i8) a :=
  dat_int Tryz.underlying44 h
theorem Fquadformlaw27_TrainFuse_args (m : Nat) (xs : List CV) (h : DatAll Tryz.prog m [32, 35, 5, 5, 44, 4] xs) : ∃ (p0_Prime : Int) (p0_List : List Constituent) (p1_Prime : Int) (p1_Parts : List A5u8) (p2 : Int) (p3 : Int) (p4 : Int) (p5 : Bool), xs = [CV.agg [CV.int .i64 p0_Prime, CV.ro 5 (List.map enc_Constituent p0_List) none], CV.agg [CV.int .u8 p1_Prime, CV.ro 5 (List.map enc_A5u8 p1_Parts) none], CV.int .u8 p2, CV.int .u8 p3, CV.int .i8 p4, CV.bool p5] ∧ (okI .i64) p0_Prime ∧ (okL ok_Constituent) p0_List ∧ (okI .u8) p1_Prime ∧ (okL ok_A5u8) p1_Parts ∧ (okI .u8) p2 ∧ (okI .u8) p3 ∧ (okI .i8) p4 ∧ okB p5 := by
  obtain ⟨x0, x1, x2, x3, x4, x5, rfl⟩ : ∃ x0 x1 x2 x3 x4 x5, xs = [x0, x1, x2, x3, x4, x5] := by
    match xs, h with
    | [x0, x1, x2, x3, x4, x5], _ => exact ⟨_, _, _, _, _, _, rfl⟩
  obtain ⟨⟨d0, e0, h0⟩, ⟨d1, e1, h1⟩, ⟨d2, e2, h2⟩, ⟨d3, e3, h3⟩, ⟨d4, e4, h4⟩, ⟨d5, e5, h5⟩, _⟩ := h
  rw [asCV_struct Tryz.underlying32] at e0
  obtain ⟨hl0, m0, hf0⟩ := dat_struct Tryz.underlying32 cz32 h0
  obtain ⟨c0_0, c0_1, rfl⟩ : ∃ c0_0 c0_1, d0 = [c0_0, c0_1] := by
    match d0, hl0 with
    | [c0_0, c0_1], _ => exact ⟨_, _, rfl⟩
  have g0_0 := hf0 0 _ rfl
  change Dat Tryz.prog m0 2 (List.take (Tryz.prog.cellsOf 2) (List.drop 0 [c0_0, c0_1])) at g0_0
  rw [cz2] at g0_0
  have g0_1 := hf0 1 _ rfl
  change Dat Tryz.prog m0 30 (List.take (Tryz.prog.cellsOf 30) (List.drop 1 [c0_0, c0_1])) at g0_1
  rw [cz30] at g0_1
  obtain ⟨v0, y0, z0⟩ := dat2 m0 _ g0_0
  obtain rfl := List.head_eq_of_cons_eq y0
  obtain ⟨v1, y1, z1⟩ := dat30 m0 _ g0_1
  obtain rfl := List.head_eq_of_cons_eq y1
  rw [asCV_struct Tryz.underlying35] at e1
  obtain ⟨hl1, m1, hf1⟩ := dat_struct Tryz.underlying35 cz35 h1
  obtain ⟨c1_0, c1_1, rfl⟩ : ∃ c1_0 c1_1, d1 = [c1_0, c1_1] := by
    match d1, hl1 with
    | [c1_0, c1_1], _ => exact ⟨_, _, rfl⟩
  have g1_0 := hf1 0 _ rfl
  change Dat Tryz.prog m1 5 (List.take (Tryz.prog.cellsOf 5) (List.drop 0 [c1_0, c1_1])) at g1_0
  rw [cz5] at g1_0
  have g1_1 := hf1 1 _ rfl
  change Dat Tryz.prog m1 33 (List.take (Tryz.prog.cellsOf 33) (List.drop 1 [c1_0, c1_1])) at g1_1
  rw [cz33] at g1_1
  obtain ⟨v2, y2, z2⟩ := dat5 m1 _ g1_0
  obtain rfl := List.head_eq_of_cons_eq y2
  obtain ⟨v3, y3, z3⟩ := dat33 m1 _ g1_1
  obtain rfl := List.head_eq_of_cons_eq y3
  obtain ⟨v4, y4, z4⟩ := dat5 m d2 h2
  subst y4
  replace e2 := e2.trans (asCV_int Tryz.underlying5)
  obtain ⟨v5, y5, z5⟩ := dat5 m d3 h3
  subst y5
  replace e3 := e3.trans (asCV_int Tryz.underlying5)
  obtain ⟨v6, y6, z6⟩ := dat44 m d4 h4
  subst y6
  replace e4 := e4.trans (asCV_int Tryz.underlying44)
  obtain ⟨v7, y7, z7⟩ := dat4 m d5 h5
  subst y7
  replace e5 := e5.trans (asCV_bool Tryz.underlying4)
  exact ⟨v0, v1, v2, v3, v4, v5, v6, v7, by rw [e0, e1, e2, e3, e4, e5], z0, z1, z2, z3, z4, z5, z6, z7⟩
theorem Fquadformlaw27_TrainWalk_args (m : Nat) (xs : List CV) (h : DatAll Tryz.prog m [32, 35, 3, 4, 4] xs) : ∃ (p0_Prime : Int) (p0_List : List Constituent) (p1_Prime : Int) (p1_Parts : List A5u8) (p2 : Int) (p3 : Bool) (p4 : Bool), xs = [CV.agg [CV.int .i64 p0_Prime, CV.ro 5 (List.map enc_Constituent p0_List) none], CV.agg [CV.int .u8 p1_Prime, CV.ro 5 (List.map enc_A5u8 p1_Parts) none], CV.int .i64 p2, CV.bool p3, CV.bool p4] ∧ (okI .i64) p0_Prime ∧ (okL ok_Constituent) p0_List ∧ (okI .u8) p1_Prime ∧ (okL ok_A5u8) p1_Parts ∧ (okI .i64) p2 ∧ okB p3 ∧ okB p4 := by
  obtain ⟨x0, x1, x2, x3, x4, rfl⟩ : ∃ x0 x1 x2 x3 x4, xs = [x0, x1, x2, x3, x4] := by
    match xs, h with
    | [x0, x1, x2, x3, x4], _ => exact ⟨_, _, _, _, _, rfl⟩
  obtain ⟨⟨d0, e0, h0⟩, ⟨d1, e1, h1⟩, ⟨d2, e2, h2⟩, ⟨d3, e3, h3⟩, ⟨d4, e4, h4⟩, _⟩ := h
  rw [asCV_struct Tryz.underlying32] at e0
  obtain ⟨hl0, m0, hf0⟩ := dat_struct Tryz.underlying32 cz32 h0
  obtain ⟨c0_0, c0_1, rfl⟩ : ∃ c0_0 c0_1, d0 = [c0_0, c0_1] := by
    match d0, hl0 with
    | [c0_0, c0_1], _ => exact ⟨_, _, rfl⟩
  have g0_0 := hf0 0 _ rfl
  change Dat Tryz.prog m0 2 (List.take (Tryz.prog.cellsOf 2) (List.drop 0 [c0_0, c0_1])) at g0_0
  rw [cz2] at g0_0
  have g0_1 := hf0 1 _ rfl
  change Dat Tryz.prog m0 30 (List.take (Tryz.prog.cellsOf 30) (List.drop 1 [c0_0, c0_1])) at g0_1
  rw [cz30] at g0_1
  obtain ⟨v0, y0, z0⟩ := dat2 m0 _ g0_0
  obtain rfl := List.head_eq_of_cons_eq y0
  obtain ⟨v1, y1, z1⟩ := dat30 m0 _ g0_1
  obtain rfl := List.head_eq_of_cons_eq y1
  rw [asCV_struct Tryz.underlying35] at e1
  obtain ⟨hl1, m1, hf1⟩ := dat_struct Tryz.underlying35 cz35 h1
  obtain ⟨c1_0, c1_1, rfl⟩ : ∃ c1_0 c1_1, d1 = [c1_0, c1_1] := by
    match d1, hl1 with
    | [c1_0, c1_1], _ => exact ⟨_, _, rfl⟩
  have g1_0 := hf1 0 _ rfl
  change Dat Tryz.prog m1 5 (List.take (Tryz.prog.cellsOf 5) (List.drop 0 [c1_0, c1_1])) at g1_0
  rw [cz5] at g1_0
  have g1_1 := hf1 1 _ rfl
  change Dat Tryz.prog m1 33 (List.take (Tryz.prog.cellsOf 33) (List.drop 1 [c1_0, c1_1])) at g1_1
  rw [cz33] at g1_1
  obtain ⟨v2, y2, z2⟩ := dat5 m1 _ g1_0
  obtain rfl := List.head_eq_of_cons_eq y2
  obtain ⟨v3, y3, z3⟩ := dat33 m1 _ g1_1
  obtain rfl := List.head_eq_of_cons_eq y3
  obtain ⟨v4, y4, z4⟩ := dat3 m d2 h2
  subst y4
  replace e2 := e2.trans (asCV_int Tryz.underlying3)
  obtain ⟨v5, y5, z5⟩ := dat4 m d3 h3
  subst y5
  replace e3 := e3.trans (asCV_bool Tryz.underlying4)
  obtain ⟨v6, y6, z6⟩ := dat4 m d4 h4
  subst y6
  replace e4 := e4.trans (asCV_bool Tryz.underlying4)
  exact ⟨v0, v1, v2, v3, v4, v5, v6, by rw [e0, e1, e2, e3, e4], z0, z1, z2, z3, z4, z5, z6⟩
theorem Fquadformlaw27_TrainOddity_args (m : Nat) (xs : List CV) (h : DatAll Tryz.prog m [32, 35, 5, 5, 44, 4] xs) : ∃ (p0_Prime : Int) (p0_List : List Constituent) (p1_Prime : Int) (p1_Parts : List A5u8) (p2 : Int) (p3 : Int) (p4 : Int) (p5 : Bool), xs = [CV.agg [CV.int .i64 p0_Prime, CV.ro 5 (List.map enc_Constituent p0_List) none], CV.agg [CV.int .u8 p1_Prime, CV.ro 5 (List.map enc_A5u8 p1_Parts) none], CV.int .u8 p2, CV.int .u8 p3, CV.int .i8 p4, CV.bool p5] ∧ (okI .i64) p0_Prime ∧ (okL ok_Constituent) p0_List ∧ (okI .u8) p1_Prime ∧ (okL ok_A5u8) p1_Parts ∧ (okI .u8) p2 ∧ (okI .u8) p3 ∧ (okI .i8) p4 ∧ okB p5 := by
  obtain ⟨x0, x1, x2, x3, x4, x5, rfl⟩ : ∃ x0 x1 x2 x3 x4 x5, xs = [x0, x1, x2, x3, x4, x5] := by
    match xs, h with
    | [x0, x1, x2, x3, x4, x5], _ => exact ⟨_, _, _, _, _, _, rfl⟩
  obtain ⟨⟨d0, e0, h0⟩, ⟨d1, e1, h1⟩, ⟨d2, e2, h2⟩, ⟨d3, e3, h3⟩, ⟨d4, e4, h4⟩, ⟨d5, e5, h5⟩, _⟩ := h
  rw [asCV_struct Tryz.underlying32] at e0
  obtain ⟨hl0, m0, hf0⟩ := dat_struct Tryz.underlying32 cz32 h0
  obtain ⟨c0_0, c0_1, rfl⟩ : ∃ c0_0 c0_1, d0 = [c0_0, c0_1] := by
    match d0, hl0 with
    | [c0_0, c0_1], _ => exact ⟨_, _, rfl⟩
  have g0_0 := hf0 0 _ rfl
  change Dat Tryz.prog m0 2 (List.take (Tryz.prog.cellsOf 2) (List.drop 0 [c0_0, c0_1])) at g0_0
  rw [cz2] at g0_0
  have g0_1 := hf0 1 _ rfl
  change Dat Tryz.prog m0 30 (List.take (Tryz.prog.cellsOf 30) (List.drop 1 [c0_0, c0_1])) at g0_1
  rw [cz30] at g0_1
  obtain ⟨v0, y0, z0⟩ := dat2 m0 _ g0_0
  obtain rfl := List.head_eq_of_cons_eq y0
  obtain ⟨v1, y1, z1⟩ := dat30 m0 _ g0_1
  obtain rfl := List.head_eq_of_cons_eq y1
  rw [asCV_struct Tryz.underlying35] at e1
  obtain ⟨hl1, m1, hf1⟩ := dat_struct Tryz.underlying35 cz35 h1
  obtain ⟨c1_0, c1_1, rfl⟩ : ∃ c1_0 c1_1, d1 = [c1_0, c1_1] := by
    match d1, hl1 with
    | [c1_0, c1_1], _ => exact ⟨_, _, rfl⟩
  have g1_0 := hf1 0 _ rfl
  change Dat Tryz.prog m1 5 (List.take (Tryz.prog.cellsOf 5) (List.drop 0 [c1_0, c1_1])) at g1_0
  rw [cz5] at g1_0
  have g1_1 := hf1 1 _ rfl
  change Dat Tryz.prog m1 33 (List.take (Tryz.prog.cellsOf 33) (List.drop 1 [c1_0, c1_1])) at g1_1
  rw [cz33] at g1_1
  obtain ⟨v2, y2, z2⟩ := dat5 m1 _ g1_0
  obtain rfl := List.head_eq_of_cons_eq y2
  obtain ⟨v3, y3, z3⟩ := dat33 m1 _ g1_1
  obtain rfl := List.head_eq_of_cons_eq y3
  obtain ⟨v4, y4, z4⟩ := dat5 m d2 h2
  subst y4
  replace e2 := e2.trans (asCV_int Tryz.underlying5)
  obtain ⟨v5, y5, z5⟩ := dat5 m d3 h3
  subst y5
  replace e3 := e3.trans (asCV_int Tryz.underlying5)
  obtain ⟨v6, y6, z6⟩ := dat44 m d4 h4
  subst y6
  replace e4 := e4.trans (asCV_int Tryz.underlying44)
  obtain ⟨v7, y7, z7⟩ := dat4 m d5 h5
  subst y7
  replace e5 := e5.trans (asCV_bool Tryz.underlying4)
  exact ⟨v0, v1, v2, v3, v4, v5, v6, v7, by rw [e0, e1, e2, e3, e4, e5], z0, z1, z2, z3, z4, z5, z6, z7⟩
theorem Fquadformlaw27_TrainParts_args (m : Nat) (xs : List CV) (h : DatAll Tryz.prog m [32, 35, 5, 5, 44, 4] xs) : ∃ (p0_Prime : Int) (p0_List : List Constituent) (p1_Prime : Int) (p1_Parts : List A5u8) (p2 : Int) (p3 : Int) (p4 : Int) (p5 : Bool), xs = [CV.agg [CV.int .i64 p0_Prime, CV.ro 5 (List.map enc_Constituent p0_List) none], CV.agg [CV.int .u8 p1_Prime, CV.ro 5 (List.map enc_A5u8 p1_Parts) none], CV.int .u8 p2, CV.int .u8 p3, CV.int .i8 p4, CV.bool p5] ∧ (okI .i64) p0_Prime ∧ (okL ok_Constituent) p0_List ∧ (okI .u8) p1_Prime ∧ (okL ok_A5u8) p1_Parts ∧ (okI .u8) p2 ∧ (okI .u8) p3 ∧ (okI .i8) p4 ∧ okB p5 := by
  obtain ⟨x0, x1, x2, x3, x4, x5, rfl⟩ : ∃ x0 x1 x2 x3 x4 x5, xs = [x0, x1, x2, x3, x4, x5] := by
    match xs, h with
    | [x0, x1, x2, x3, x4, x5], _ => exact ⟨_, _, _, _, _, _, rfl⟩
  obtain ⟨⟨d0, e0, h0⟩, ⟨d1, e1, h1⟩, ⟨d2, e2, h2⟩, ⟨d3, e3, h3⟩, ⟨d4, e4, h4⟩, ⟨d5, e5, h5⟩, _⟩ := h
  rw [asCV_struct Tryz.underlying32] at e0
  obtain ⟨hl0, m0, hf0⟩ := dat_struct Tryz.underlying32 cz32 h0
  obtain ⟨c0_0, c0_1, rfl⟩ : ∃ c0_0 c0_1, d0 = [c0_0, c0_1] := by
    match d0, hl0 with
    | [c0_0, c0_1], _ => exact ⟨_, _, rfl⟩
  have g0_0 := hf0 0 _ rfl
  change Dat Tryz.prog m0 2 (List.take (Tryz.prog.cellsOf 2) (List.drop 0 [c0_0, c0_1])) at g0_0
  rw [cz2] at g0_0
  have g0_1 := hf0 1 _ rfl
  change Dat Tryz.prog m0 30 (List.take (Tryz.prog.cellsOf 30) (List.drop 1 [c0_0, c0_1])) at g0_1
  rw [cz30] at g0_1
  obtain ⟨v0, y0, z0⟩ := dat2 m0 _ g0_0
  obtain rfl := List.head_eq_of_cons_eq y0
  obtain ⟨v1, y1, z1⟩ := dat30 m0 _ g0_1
  obtain rfl := List.head_eq_of_cons_eq y1
  rw [asCV_struct Tryz.underlying35] at e1
  obtain ⟨hl1, m1, hf1⟩ := dat_struct Tryz.underlying35 cz35 h1
  obtain ⟨c1_0, c1_1, rfl⟩ : ∃ c1_0 c1_1, d1 = [c1_0, c1_1] := by
    match d1, hl1 with
    | [c1_0, c1_1], _ => exact ⟨_, _, rfl⟩
  have g1_0 := hf1 0 _ rfl
  change Dat Tryz.prog m1 5 (List.take (Tryz.prog.cellsOf 5) (List.drop 0 [c1_0, c1_1])) at g1_0
  rw [cz5] at g1_0
  have g1_1 := hf1 1 _ rfl
  change Dat Tryz.prog m1 33 (List.take (Tryz.prog.cellsOf 33) (List.drop 1 [c1_0, c1_1])) at g1_1
  rw [cz33] at g1_1
  obtain ⟨v2, y2, z2⟩ := dat5 m1 _ g1_0
  obtain rfl := List.head_eq_of_cons_eq y2
  obtain ⟨v3, y3, z3⟩ := dat33 m1 _ g1_1
  obtain rfl := List.head_eq_of_cons_eq y3
  obtain ⟨v4, y4, z4⟩ := dat5 m d2 h2
  subst y4
  replace e2 := e2.trans (asCV_int Tryz.underlying5)
  obtain ⟨v5, y5, z5⟩ := dat5 m d3 h3
  subst y5
  replace e3 := e3.trans (asCV_int Tryz.underlying5)
  obtain ⟨v6, y6, z6⟩ := dat44 m d4 h4
  subst y6
  replace e4 := e4.trans (asCV_int Tryz.underlying44)
  obtain ⟨v7, y7, z7⟩ := dat4 m d5 h5
  subst y7
  replace e5 := e5.trans (asCV_bool Tryz.underlying4)
  exact ⟨v0, v1, v2, v3, v4, v5, v6, v7, by rw [e0, e1, e2, e3, e4, e5], z0, z1, z2, z3, z4, z5, z6, z7⟩
theorem Fquadformlaw27_TrainCovers_args (m : Nat) (xs : List CV) (h : DatAll Tryz.prog m [35] xs) : ∃ (p0_Prime : Int) (p0_Parts : List A5u8), xs = [CV.agg [CV.int .u8 p0_Prime, CV.ro 5 (List.map enc_A5u8 p0_Parts) none]] ∧ (okI .u8) p0_Prime ∧ (okL ok_A5u8) p0_Parts := by
  obtain ⟨x0, rfl⟩ : ∃ x0, xs = [x0] := by
    match xs, h with
    | [x0], _ => exact ⟨_, rfl⟩
  obtain ⟨⟨d0, e0, h0⟩, _⟩ := h
  rw [asCV_struct Tryz.underlying35] at e0
  obtain ⟨hl0, m0, hf0⟩ := dat_struct Tryz.underlying35 cz35 h0
  obtain ⟨c0_0, c0_1, rfl⟩ : ∃ c0_0 c0_1, d0 = [c0_0, c0_1] := by
    match d0, hl0 with
    | [c0_0, c0_1], _ => exact ⟨_, _, rfl⟩
  have g0_0 := hf0 0 _ rfl
  change Dat Tryz.prog m0 5 (List.take (Tryz.prog.cellsOf 5) (List.drop 0 [c0_0, c0_1])) at g0_0
  rw [cz5] at g0_0
  have g0_1 := hf0 1 _ rfl
  change Dat Tryz.prog m0 33 (List.take (Tryz.prog.cellsOf 33) (List.drop 1 [c0_0, c0_1])) at g0_1
  rw [cz33] at g0_1
  obtain ⟨v0, y0, z0⟩ := dat5 m0 _ g0_0
  obtain rfl := List.head_eq_of_cons_eq y0
  obtain ⟨v1, y1, z1⟩ := dat33 m0 _ g0_1
  obtain rfl := List.head_eq_of_cons_eq y1
  exact ⟨v0, v1, by rw [e0], z0, z1⟩
theorem Fquadformlaw27_TrainWalks_args (m : Nat) (xs : List CV) (h : DatAll Tryz.prog m [35, 5] xs) : ∃ (p0_Prime : Int) (p0_Parts : List A5u8) (p1 : Int), xs = [CV.agg [CV.int .u8 p0_Prime, CV.ro 5 (List.map enc_A5u8 p0_Parts) none], CV.int .u8 p1] ∧ (okI .u8) p0_Prime ∧ (okL ok_A5u8) p0_Parts ∧ (okI .u8) p1 := by
  obtain ⟨x0, x1, rfl⟩ : ∃ x0 x1, xs = [x0, x1] := by
    match xs, h with
    | [x0, x1], _ => exact ⟨_, _, rfl⟩
  obtain ⟨⟨d0, e0, h0⟩, ⟨d1, e1, h1⟩, _⟩ := h
  rw [asCV_struct Tryz.underlying35] at e0
  obtain ⟨hl0, m0, hf0⟩ := dat_struct Tryz.underlying35 cz35 h0
  obtain ⟨c0_0, c0_1, rfl⟩ : ∃ c0_0 c0_1, d0 = [c0_0, c0_1] := by
    match d0, hl0 with
    | [c0_0, c0_1], _ => exact ⟨_, _, rfl⟩
  have g0_0 := hf0 0 _ rfl
  change Dat Tryz.prog m0 5 (List.take (Tryz.prog.cellsOf 5) (List.drop 0 [c0_0, c0_1])) at g0_0
  rw [cz5] at g0_0
  have g0_1 := hf0 1 _ rfl
  change Dat Tryz.prog m0 33 (List.take (Tryz.prog.cellsOf 33) (List.drop 1 [c0_0, c0_1])) at g0_1
  rw [cz33] at g0_1
  obtain ⟨v0, y0, z0⟩ := dat5 m0 _ g0_0
  obtain rfl := List.head_eq_of_cons_eq y0
  obtain ⟨v1, y1, z1⟩ := dat33 m0 _ g0_1
  obtain rfl := List.head_eq_of_cons_eq y1
  obtain ⟨v2, y2, z2⟩ := dat5 m d1 h1
  subst y2
  replace e1 := e1.trans (asCV_int Tryz.underlying5)
  exact ⟨v0, v1, v2, by rw [e0, e1], z0, z1, z2⟩
end Go.Cn
