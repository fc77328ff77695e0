import Derived.Test.YtgbijhccgmmkgaaGreatDoorCb3
import Derived.Test.YtgbijhccgmmkgaaGreatDoorProg
set_option linter.unusedVariables false
set_option maxRecDepth 100000
set_option maxHeartbeats 0
noncomputable section
namespace Go.Cn
open Go.Proofs
structure Constituent where
  Exp : Int
  Dim : Int
  Sign : Int
  Odd : Bool
  Oddity : Int
  deriving DecidableEq, Inhabited
structure A4u8 where
  x0 : Int
  x1 : Int
  x2 : Int
  x3 : Int
  deriving DecidableEq, Inhabited
structure Local where
  Prime : Int
  List : List Constituent
  deriving DecidableEq, Inhabited
structure A5u8 where
  x0 : Int
  x1 : Int
  x2 : Int
  x3 : Int
  x4 : Int
  deriving DecidableEq, Inhabited
structure Symbol where
  Prime : Int
  Parts : List A5u8
  deriving DecidableEq, Inhabited
def enc_i64 (a : Int) : List CV := [CV.int .i64 a]
theorem enc_i64_len (a : Int) : (enc_i64 a).length = 1 := rfl
theorem enc_i64_clean (a : Int) : ∀ x ∈ enc_i64 a, Clean x := cleanL_mem (xs := [CV.int .i64 a]) ⟨clean_int, trivial⟩
theorem enc_i64_still (a : Int) : Still (enc_i64 a) := ⟨fun g => rfl, ⟨trivial, trivial⟩⟩
def enc_Constituent (a : Constituent) : List CV := [CV.int .i64 a.Exp, CV.int .i64 a.Dim, CV.int .i64 a.Sign, CV.bool a.Odd, CV.int .i64 a.Oddity]
theorem enc_Constituent_len (a : Constituent) : (enc_Constituent a).length = 5 := rfl
theorem enc_Constituent_clean (a : Constituent) : ∀ x ∈ enc_Constituent a, Clean x := cleanL_mem (xs := [CV.int .i64 a.Exp, CV.int .i64 a.Dim, CV.int .i64 a.Sign, CV.bool a.Odd, CV.int .i64 a.Oddity]) ⟨clean_int, clean_int, clean_int, clean_bool, clean_int, trivial⟩
theorem enc_Constituent_still (a : Constituent) : Still (enc_Constituent a) := ⟨fun g => rfl, ⟨trivial, trivial, trivial, trivial, trivial, trivial⟩⟩
def enc_A5u8 (a : A5u8) : List CV := [CV.int .u8 a.x0, CV.int .u8 a.x1, CV.int .u8 a.x2, CV.int .u8 a.x3, CV.int .u8 a.x4]
theorem enc_A5u8_clean (a : A5u8) : ∀ x ∈ enc_A5u8 a, Clean x := cleanL_mem (xs := [CV.int .u8 a.x0, CV.int .u8 a.x1, CV.int .u8 a.x2, CV.int .u8 a.x3, CV.int .u8 a.x4]) ⟨clean_int, clean_int, clean_int, clean_int, clean_int, trivial⟩
def enc_Li64 (a : List Int) : List CV := [CV.ro 1 (List.map enc_i64 a) none]
theorem enc_Li64_len (a : List Int) : (enc_Li64 a).length = 1 := rfl
theorem enc_Li64_clean (a : List Int) : ∀ x ∈ enc_Li64 a, Clean x := cleanL_mem (xs := [CV.ro 1 (List.map enc_i64 a) none]) ⟨(clean_map enc_i64_clean), trivial⟩
theorem enc_Li64_still (a : List Int) : Still (enc_Li64 a) := ⟨fun g => rfl, ⟨(clean_map enc_i64_clean), trivial⟩⟩
def enc_bool (a : Bool) : List CV := [CV.bool a]
def enc_u8 (a : Int) : List CV := [CV.int .u8 a]
def enc_LConstituent (a : List Constituent) : List CV := [CV.ro 5 (List.map enc_Constituent a) none]
def enc_LA5u8 (a : List A5u8) : List CV := [CV.ro 5 (List.map enc_A5u8 a) none]
def enc_i8 (a : Int) : List CV := [CV.int .i8 a]
theorem sz3 : tsize Tryz.prog 3 = some 1 := tsize_of Tryz.type3
theorem sz83 : tsize Tryz.prog 83 = some 5 := tsize_of Tryz.type83
theorem nz30 : noZeros Tryz.prog (some 30) = true := by kernel_rfl
theorem sz23 : tsize Tryz.prog 23 = some 5 := tsize_of Tryz.type23
theorem nz54 : noZeros Tryz.prog (some 54) = true := by kernel_rfl
theorem sz28 : tsize Tryz.prog 28 = some 1 := tsize_of Tryz.type28
theorem ag28 : aggT Tryz.prog 28 = some false := by kernel_rfl
theorem nz28 : noZeros Tryz.prog (some 28) = true := by kernel_rfl
theorem cz5 : Tryz.prog.cellsOf 5 = 1 := by kernel_rfl
theorem cz35 : Tryz.prog.cellsOf 35 = 2 := by kernel_rfl
theorem cz83 : Tryz.prog.cellsOf 83 = 5 := by kernel_rfl
theorem cz33 : Tryz.prog.cellsOf 33 = 1 := by kernel_rfl
theorem dat5 (m : Nat) (cs : List CV) (h : Dat Tryz.prog m 5 cs) : ∃ a : Int, cs = enc_u8 a ∧ (okI .u8) a :=
  dat_int Tryz.underlying5 h
def ok_Constituent (a : Constituent) : Prop := (okI .i64) a.Exp ∧ (okI .i64) a.Dim ∧ (okI .i64) a.Sign ∧ okB a.Odd ∧ (okI .i64) a.Oddity
def ok_A5u8 (a : A5u8) : Prop := (okI .u8) a.x0 ∧ (okI .u8) a.x1 ∧ (okI .u8) a.x2 ∧ (okI .u8) a.x3 ∧ (okI .u8) a.x4
theorem dat83 (m : Nat) (cs : List CV) (h : Dat Tryz.prog m 83 cs) : ∃ a : A5u8, cs = enc_A5u8 a ∧ ok_A5u8 a :=
  by
  obtain ⟨hl, m, hf⟩ := dat_array Tryz.underlying83 cz83 cz5 h
  obtain ⟨c0, c1, c2, c3, c4, rfl⟩ : ∃ c0 c1 c2 c3 c4, cs = [c0, c1, c2, c3, c4] := by
    match cs, hl with
    | [c0, c1, c2, c3, c4], _ => exact ⟨_, _, _, _, _, rfl⟩
  have h0 : Dat Tryz.prog m 5 [c0] := hf 0 (by decide)
  have h1 : Dat Tryz.prog m 5 [c1] := hf 1 (by decide)
  have h2 : Dat Tryz.prog m 5 [c2] := hf 2 (by decide)
  have h3 : Dat Tryz.prog m 5 [c3] := hf 3 (by decide)
  have h4 : Dat Tryz.prog m 5 [c4] := hf 4 (by decide)
  obtain ⟨x0, y0, z0⟩ := dat5 m _ h0
  obtain rfl := List.head_eq_of_cons_eq y0
  obtain ⟨x1, y1, z1⟩ := dat5 m _ h1
  obtain rfl := List.head_eq_of_cons_eq y1
  obtain ⟨x2, y2, z2⟩ := dat5 m _ h2
  obtain rfl := List.head_eq_of_cons_eq y2
  obtain ⟨x3, y3, z3⟩ := dat5 m _ h3
  obtain rfl := List.head_eq_of_cons_eq y3
  obtain ⟨x4, y4, z4⟩ := dat5 m _ h4
  obtain rfl := List.head_eq_of_cons_eq y4
  exact ⟨⟨x0, x1, x2, x3, x4⟩, rfl, z0, z1, z2, z3, z4⟩
theorem dat33 (m : Nat) (cs : List CV) (h : Dat Tryz.prog m 33 cs) : ∃ a : List A5u8, cs = enc_LA5u8 a ∧ (okL ok_A5u8) a :=
  dat_list (enc := enc_A5u8) Tryz.underlying33 cz83 (fun m r h => dat83 m r h) h
theorem F1 (m : Nat) (xs : List CV) (h : DatAll Tryz.prog m [35] xs) : ∃ (p0_Prime : Int) (p0_Parts : List A5u8), xs = [CV.agg [CV.int .u8 p0_Prime, CV.ro 5 (List.map enc_A5u8 p0_Parts) none]] ∧ (okI .u8) p0_Prime ∧ (okL ok_A5u8) p0_Parts := by
  obtain ⟨x0, rfl⟩ : ∃ x0, xs = [x0] := by
    match xs, h with
    | [x0], _ => exact ⟨_, rfl⟩
  obtain ⟨⟨d0, e0, h0⟩, _⟩ := h
  rw [asCV_struct Tryz.underlying35] at e0
  obtain ⟨hl0, m0, hf0⟩ := dat_struct Tryz.underlying35 cz35 h0
  obtain ⟨c0_0, c0_1, rfl⟩ : ∃ c0_0 c0_1, d0 = [c0_0, c0_1] := by
    match d0, hl0 with
    | [c0_0, c0_1], _ => exact ⟨_, _, rfl⟩
  have g0_0 := hf0 0 _ rfl
  change Dat Tryz.prog m0 5 (List.take (Tryz.prog.cellsOf 5) (List.drop 0 [c0_0, c0_1])) at g0_0
  rw [cz5] at g0_0
  have g0_1 := hf0 1 _ rfl
  change Dat Tryz.prog m0 33 (List.take (Tryz.prog.cellsOf 33) (List.drop 1 [c0_0, c0_1])) at g0_1
  rw [cz33] at g0_1
  obtain ⟨v0, y0, z0⟩ := dat5 m0 _ g0_0
  obtain rfl := List.head_eq_of_cons_eq y0
  obtain ⟨v1, y1, z1⟩ := dat33 m0 _ g0_1
  obtain rfl := List.head_eq_of_cons_eq y1
  exact ⟨v0, v1, by rw [e0], z0, z1⟩
end Go.Cn
