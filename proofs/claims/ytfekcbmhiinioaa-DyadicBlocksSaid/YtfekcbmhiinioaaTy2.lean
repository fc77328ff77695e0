import Derived.Test.YtfekcbmhiinioaaCk4
import Derived.Test.YtfekcbmhiinioaaCk6
import Derived.Test.YtfekcbmhiinioaaProg
set_option linter.unusedVariables false
set_option maxRecDepth 100000
set_option maxHeartbeats 0
noncomputable section
namespace Go.Cn
open Go.Proofs
structure A5u8 where
  x0 : Int
  x1 : Int
  x2 : Int
  x3 : Int
  x4 : Int
  deriving DecidableEq, Inhabited
structure Block where
  Exp : Int
  Size : Int
  A : Int
  B : Int
  C : Int
  deriving DecidableEq, Inhabited
structure Jordan where
  Prime : Int
  T : List (List Int)
  Blocks : List Block
  deriving DecidableEq, Inhabited
structure Constituent where
  Exp : Int
  Dim : Int
  Sign : Int
  Odd : Bool
  Oddity : Int
  deriving DecidableEq, Inhabited
noncomputable def enc_A5u8 (a : A5u8) : List CV := [CV.int .u8 a.x0, CV.int .u8 a.x1, CV.int .u8 a.x2, CV.int .u8 a.x3, CV.int .u8 a.x4]
theorem enc_A5u8_len (a : A5u8) : (enc_A5u8 a).length = 5 := rfl
theorem enc_A5u8_clean (a : A5u8) : ∀ x ∈ enc_A5u8 a, Clean x := cleanL_mem (xs := [CV.int .u8 a.x0, CV.int .u8 a.x1, CV.int .u8 a.x2, CV.int .u8 a.x3, CV.int .u8 a.x4]) ⟨clean_int, clean_int, clean_int, clean_int, clean_int, trivial⟩
theorem enc_A5u8_scal (a : A5u8) : ScalL (enc_A5u8 a) := ⟨scal_int, scal_int, scal_int, scal_int, scal_int, trivial⟩
theorem enc_A5u8_alone (Z : Prop) (a : A5u8) : Alone Z (enc_A5u8 a) := ⟨fun n => rfl, ⟨trivial, trivial, trivial, trivial, trivial, trivial⟩, fun h => ⟨trivial, trivial, trivial, trivial, trivial, trivial⟩⟩
theorem enc_A5u8_still (a : A5u8) : Still (enc_A5u8 a) := ⟨fun g => rfl, ⟨trivial, trivial, trivial, trivial, trivial, trivial⟩⟩
noncomputable def enc_Block (a : Block) : List CV := [CV.int .i64 a.Exp, CV.int .i64 a.Size, CV.int .i64 a.A, CV.int .i64 a.B, CV.int .i64 a.C]
theorem enc_Block_len (a : Block) : (enc_Block a).length = 5 := rfl
theorem enc_Block_clean (a : Block) : ∀ x ∈ enc_Block a, Clean x := cleanL_mem (xs := [CV.int .i64 a.Exp, CV.int .i64 a.Size, CV.int .i64 a.A, CV.int .i64 a.B, CV.int .i64 a.C]) ⟨clean_int, clean_int, clean_int, clean_int, clean_int, trivial⟩
theorem enc_Block_scal (a : Block) : ScalL (enc_Block a) := ⟨scal_int, scal_int, scal_int, scal_int, scal_int, trivial⟩
theorem enc_Block_alone (Z : Prop) (a : Block) : Alone Z (enc_Block a) := ⟨fun n => rfl, ⟨trivial, trivial, trivial, trivial, trivial, trivial⟩, fun h => ⟨trivial, trivial, trivial, trivial, trivial, trivial⟩⟩
theorem enc_Block_still (a : Block) : Still (enc_Block a) := ⟨fun g => rfl, ⟨trivial, trivial, trivial, trivial, trivial, trivial⟩⟩
noncomputable def enc_Constituent (a : Constituent) : List CV := [CV.int .i64 a.Exp, CV.int .i64 a.Dim, CV.int .i64 a.Sign, CV.bool a.Odd, CV.int .i64 a.Oddity]
theorem enc_Constituent_len (a : Constituent) : (enc_Constituent a).length = 5 := rfl
theorem enc_Constituent_clean (a : Constituent) : ∀ x ∈ enc_Constituent a, Clean x := cleanL_mem (xs := [CV.int .i64 a.Exp, CV.int .i64 a.Dim, CV.int .i64 a.Sign, CV.bool a.Odd, CV.int .i64 a.Oddity]) ⟨clean_int, clean_int, clean_int, clean_bool, clean_int, trivial⟩
theorem enc_Constituent_scal (a : Constituent) : ScalL (enc_Constituent a) := ⟨scal_int, scal_int, scal_int, scal_bool, scal_int, trivial⟩
theorem enc_Constituent_alone (Z : Prop) (a : Constituent) : Alone Z (enc_Constituent a) := ⟨fun n => rfl, ⟨trivial, trivial, trivial, trivial, trivial, trivial⟩, fun h => ⟨trivial, trivial, trivial, trivial, trivial, trivial⟩⟩
theorem enc_Constituent_still (a : Constituent) : Still (enc_Constituent a) := ⟨fun g => rfl, ⟨trivial, trivial, trivial, trivial, trivial, trivial⟩⟩
noncomputable def enc_i64 (a : Int) : List CV := [CV.int .i64 a]
theorem enc_i64_len (a : Int) : (enc_i64 a).length = 1 := rfl
theorem enc_i64_clean (a : Int) : ∀ x ∈ enc_i64 a, Clean x := cleanL_mem (xs := [CV.int .i64 a]) ⟨clean_int, trivial⟩
theorem enc_i64_scal (a : Int) : ScalL (enc_i64 a) := ⟨scal_int, trivial⟩
theorem enc_i64_alone (Z : Prop) (a : Int) : Alone Z (enc_i64 a) := ⟨fun n => rfl, ⟨trivial, trivial⟩, fun h => ⟨trivial, trivial⟩⟩
theorem enc_i64_still (a : Int) : Still (enc_i64 a) := ⟨fun g => rfl, ⟨trivial, trivial⟩⟩
noncomputable def enc_Li64 (a : List Int) : List CV := [CV.ro 1 (List.map enc_i64 a) none]
theorem enc_Li64_len (a : List Int) : (enc_Li64 a).length = 1 := rfl
theorem enc_Li64_clean (a : List Int) : ∀ x ∈ enc_Li64 a, Clean x := cleanL_mem (xs := [CV.ro 1 (List.map enc_i64 a) none]) ⟨(clean_map enc_i64_clean), trivial⟩
theorem enc_Li64_alone (Z : Prop) (hZ : ¬ Z) (a : List Int) : Alone Z (enc_Li64 a) := ⟨fun n => rfl, ⟨(clean_map enc_i64_clean), trivial⟩, fun h => (hZ h).elim⟩
theorem enc_Li64_still (a : List Int) : Still (enc_Li64 a) := ⟨fun g => rfl, ⟨(clean_map enc_i64_clean), trivial⟩⟩
noncomputable def enc_u8 (a : Int) : List CV := [CV.int .u8 a]
theorem enc_u8_len (a : Int) : (enc_u8 a).length = 1 := rfl
theorem enc_u8_clean (a : Int) : ∀ x ∈ enc_u8 a, Clean x := cleanL_mem (xs := [CV.int .u8 a]) ⟨clean_int, trivial⟩
theorem enc_u8_scal (a : Int) : ScalL (enc_u8 a) := ⟨scal_int, trivial⟩
theorem enc_u8_alone (Z : Prop) (a : Int) : Alone Z (enc_u8 a) := ⟨fun n => rfl, ⟨trivial, trivial⟩, fun h => ⟨trivial, trivial⟩⟩
theorem enc_u8_still (a : Int) : Still (enc_u8 a) := ⟨fun g => rfl, ⟨trivial, trivial⟩⟩
noncomputable def enc_LA5u8 (a : List A5u8) : List CV := [CV.ro 5 (List.map enc_A5u8 a) none]
theorem enc_LA5u8_len (a : List A5u8) : (enc_LA5u8 a).length = 1 := rfl
theorem enc_LA5u8_clean (a : List A5u8) : ∀ x ∈ enc_LA5u8 a, Clean x := cleanL_mem (xs := [CV.ro 5 (List.map enc_A5u8 a) none]) ⟨(clean_map enc_A5u8_clean), trivial⟩
theorem enc_LA5u8_alone (Z : Prop) (hZ : ¬ Z) (a : List A5u8) : Alone Z (enc_LA5u8 a) := ⟨fun n => rfl, ⟨(clean_map enc_A5u8_clean), trivial⟩, fun h => (hZ h).elim⟩
theorem enc_LA5u8_still (a : List A5u8) : Still (enc_LA5u8 a) := ⟨fun g => rfl, ⟨(clean_map enc_A5u8_clean), trivial⟩⟩
theorem sz53 : tsize Try.prog 53 = some 5 := tsize_of Try.type53
theorem nz23 : noZeros Try.prog (some 23) = true := by kernel_rfl
theorem sz36 : tsize Try.prog 36 = some 5 := tsize_of Try.type36
theorem ag3 : aggT Try.prog 3 = some false := by kernel_rfl
theorem nz29 : noZeros Try.prog (some 29) = true := by kernel_rfl
theorem nz46 : noZeros Try.prog (some 46) = true := by kernel_rfl
theorem sz39 : tsize Try.prog 39 = some 5 := tsize_of Try.type39
theorem sz2 : tsize Try.prog 2 = some 1 := tsize_of Try.type2
theorem ag2 : aggT Try.prog 2 = some false := by kernel_rfl
theorem ag36 : aggT Try.prog 36 = some true := by kernel_rfl
theorem eq39_eql (x y : Constituent) : cbin Try.prog .eql 39 (.agg (enc_Constituent x)) (.agg (enc_Constituent y)) = some (.bool (decide (x = y))) := by
  have h : ∀ (a b : Constituent), cbin Try.prog .eql 39 (.agg (enc_Constituent a)) (.agg (enc_Constituent b)) = (match ((if a.Exp = b.Exp then (if a.Dim = b.Dim then (if a.Sign = b.Sign then (if a.Odd = b.Odd then (if a.Oddity = b.Oddity then some true else some false) else some false) else some false) else some false) else some false)) with | some b => some (.bool b) | none => none) := fun a b => by kernel_rfl
  rw [h]
  obtain ⟨x0, x1, x2, x3, x4⟩ := x
  obtain ⟨y0, y1, y2, y3, y4⟩ := y
  by_cases h0 : x0 = y0 <;> by_cases h1 : x1 = y1 <;> by_cases h2 : x2 = y2 <;> by_cases h3 : x3 = y3 <;> by_cases h4 : x4 = y4 <;> simp [h0, h1, h2, h3, h4]
theorem eq39_neq (x y : Constituent) : cbin Try.prog .neq 39 (.agg (enc_Constituent x)) (.agg (enc_Constituent y)) = some (.bool (!decide (x = y))) := by
  have h : ∀ (a b : Constituent), cbin Try.prog .neq 39 (.agg (enc_Constituent a)) (.agg (enc_Constituent b)) = (match ((if a.Exp = b.Exp then (if a.Dim = b.Dim then (if a.Sign = b.Sign then (if a.Odd = b.Odd then (if a.Oddity = b.Oddity then some true else some false) else some false) else some false) else some false) else some false)) with | some b => some (.bool !b) | none => none) := fun a b => by kernel_rfl
  rw [h]
  obtain ⟨x0, x1, x2, x3, x4⟩ := x
  obtain ⟨y0, y1, y2, y3, y4⟩ := y
  by_cases h0 : x0 = y0 <;> by_cases h1 : x1 = y1 <;> by_cases h2 : x2 = y2 <;> by_cases h3 : x3 = y3 <;> by_cases h4 : x4 = y4 <;> simp [h0, h1, h2, h3, h4]
theorem cz53 : Try.prog.cellsOf 53 = 5 := by kernel_rfl
theorem cz5 : Try.prog.cellsOf 5 = 1 := by kernel_rfl
def ok_A5u8 (a : A5u8) : Prop := (okI .u8) a.x0 ∧ (okI .u8) a.x1 ∧ (okI .u8) a.x2 ∧ (okI .u8) a.x3 ∧ (okI .u8) a.x4
theorem dat5 (m : Nat) (cs : List CV) (h : Dat Try.prog m 5 cs) : ∃ a : Int, cs = enc_u8 a ∧ (okI .u8) a :=
  dat_int Try.underlying5 h
theorem dat53 (m : Nat) (cs : List CV) (h : Dat Try.prog m 53 cs) : ∃ a : A5u8, cs = enc_A5u8 a ∧ ok_A5u8 a :=
  by
  obtain ⟨hl, m, hf⟩ := dat_array Try.underlying53 cz53 cz5 h
  obtain ⟨c0, c1, c2, c3, c4, rfl⟩ : ∃ c0 c1 c2 c3 c4, cs = [c0, c1, c2, c3, c4] := by
    match cs, hl with
    | [c0, c1, c2, c3, c4], _ => exact ⟨_, _, _, _, _, rfl⟩
  have h0 : Dat Try.prog m 5 [c0] := hf 0 (by decide)
  have h1 : Dat Try.prog m 5 [c1] := hf 1 (by decide)
  have h2 : Dat Try.prog m 5 [c2] := hf 2 (by decide)
  have h3 : Dat Try.prog m 5 [c3] := hf 3 (by decide)
  have h4 : Dat Try.prog m 5 [c4] := hf 4 (by decide)
  obtain ⟨x0, y0, z0⟩ := dat5 m _ h0
  obtain rfl := List.head_eq_of_cons_eq y0
  obtain ⟨x1, y1, z1⟩ := dat5 m _ h1
  obtain rfl := List.head_eq_of_cons_eq y1
  obtain ⟨x2, y2, z2⟩ := dat5 m _ h2
  obtain rfl := List.head_eq_of_cons_eq y2
  obtain ⟨x3, y3, z3⟩ := dat5 m _ h3
  obtain rfl := List.head_eq_of_cons_eq y3
  obtain ⟨x4, y4, z4⟩ := dat5 m _ h4
  obtain rfl := List.head_eq_of_cons_eq y4
  exact ⟨⟨x0, x1, x2, x3, x4⟩, rfl, z0, z1, z2, z3, z4⟩
theorem dat26 (m : Nat) (cs : List CV) (h : Dat Try.prog m 26 cs) : ∃ a : List A5u8, cs = enc_LA5u8 a ∧ (okL ok_A5u8) a :=
  dat_list (enc := enc_A5u8) Try.underlying26 cz53 (fun m r h => dat53 m r h) h
theorem Fquadformlaw25_DyadicBlocks_args (m : Nat) (xs : List CV) (h : DatAll Try.prog m [26, 5, 5, 5] xs) : ∃ (p0 : List A5u8) (p1 : Int) (p2 : Int) (p3 : Int), xs = [CV.ro 5 (List.map enc_A5u8 p0) none, CV.int .u8 p1, CV.int .u8 p2, CV.int .u8 p3] ∧ (okL ok_A5u8) p0 ∧ (okI .u8) p1 ∧ (okI .u8) p2 ∧ (okI .u8) p3 := by
  obtain ⟨x0, x1, x2, x3, rfl⟩ : ∃ x0 x1 x2 x3, xs = [x0, x1, x2, x3] := by
    match xs, h with
    | [x0, x1, x2, x3], _ => exact ⟨_, _, _, _, rfl⟩
  obtain ⟨⟨d0, e0, h0⟩, ⟨d1, e1, h1⟩, ⟨d2, e2, h2⟩, ⟨d3, e3, h3⟩, _⟩ := h
  obtain ⟨v0, y0, z0⟩ := dat26 m d0 h0
  subst y0
  replace e0 := e0.trans (asCV_slice Try.underlying26)
  obtain ⟨v1, y1, z1⟩ := dat5 m d1 h1
  subst y1
  replace e1 := e1.trans (asCV_int Try.underlying5)
  obtain ⟨v2, y2, z2⟩ := dat5 m d2 h2
  subst y2
  replace e2 := e2.trans (asCV_int Try.underlying5)
  obtain ⟨v3, y3, z3⟩ := dat5 m d3 h3
  subst y3
  replace e3 := e3.trans (asCV_int Try.underlying5)
  exact ⟨v0, v1, v2, v3, by rw [e0, e1, e2, e3], z0, z1, z2, z3⟩
end Go.Cn
