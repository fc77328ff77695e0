/- The plain law of DyadicConstituents. -/
import Derived.Test.YtfekcbmhiinioaaTf2
import Derived.Test.YtfekcbmhiinioaaPl1
set_option linter.unusedVariables false
noncomputable section
namespace Go.Cn

/-! ### what the two programs reckon -/
def okb (b : Block) : Prop := (b.Size = 1 ∧ b.A % 2 = 1 ∧ b.B = 0 ∧ b.C = 0) ∨ (b.Size = 2 ∧ b.A % 2 = 0 ∧ b.B % 2 = 1 ∧ b.C % 2 = 0)
instance (b : Block) : Decidable (okb b) := by unfold okb; exact inferInstance

theorem proper_eq (k : Nat) (b : Block) : Fdyadic_proper k b.Exp b.Size b.A b.B b.C = some (decide (okb b)) := by
  unfold Fdyadic_proper Fdyadic_proper.b okb
  simp only [iand_1]
  have hA := Int.emod_two_eq b.A
  have hB := Int.emod_two_eq b.B
  have hC := Int.emod_two_eq b.C
  by_cases h1 : b.Size = 1
  · rw [if_pos h1]
    by_cases h2 : b.A % 2 = 1 <;> by_cases h3 : b.B = 0 <;> by_cases h4 : b.C = 0 <;> simp [h1, h2, h3, h4]
  · rw [if_neg h1]
    by_cases h0 : b.Size = 2
    · by_cases h2 : b.A % 2 = 0 <;> by_cases h3 : b.B % 2 = 1 <;> by_cases h4 : b.C % 2 = 0 <;> simp [h0, h2, h3, h4]
    · simp [h0, h1]

theorem mod8_eq (k : Nat) (a : Int) : Fquadformref22_Mod k a 8 = some (a % 8) := by
  unfold Fquadformref22_Mod Fquadformref22_Mod.b
  rw [if_pos (by decide)]
  rw [← mod8_of_tmod (a := a)]
  split <;> rfl

def sg (D : Int) : Int := if D = 3 ∨ D = 5 then -1 else 1
def bdet (b : Block) : Int := if b.Size = 1 then b.A % 8 else (b.A % 8 * (b.C % 8) - b.B % 8 * (b.B % 8)) % 8

/-- a constituent with its determinant, behind one block more -/
def upd (p : Constituent × Int) (b : Block) : Constituent × Int :=
  (⟨p.1.Exp, p.1.Dim + b.Size, sg (p.2 * bdet b % 8), p.1.Odd || decide (b.Size = 1), if b.Size = 1 then (p.1.Oddity + b.A % 8) % 8 else p.1.Oddity⟩, p.2 * bdet b % 8)
def new (e : Int) : Constituent × Int := (⟨e, 0, 1, false, 0⟩, 1)
/-- one block more -/
def stepA (pre : List (Constituent × Int)) (p : Constituent × Int) (b : Block) : List (Constituent × Int) × (Constituent × Int) :=
  if b.Exp = p.1.Exp then (pre, upd p b) else (pre ++ [p], upd (new b.Exp) b)
def runA (pre : List (Constituent × Int)) (p : Constituent × Int) : List Block → List (Constituent × Int)
  | [] => pre ++ [p]
  | b :: r => runA (stepA pre p b).1 (stepA pre p b).2 r
def valid (e : Int) : List Block → Prop
  | [] => True
  | b :: r => e ≤ b.Exp ∧ b.Exp ≤ 60 ∧ okb b ∧ valid b.Exp r
instance valid.dec : ∀ (e : Int) (l : List Block), Decidable (valid e l)
  | e, [] => isTrue trivial
  | e, b :: r => by
    unfold valid
    have := valid.dec b.Exp r
    exact inferInstance
def sizes : List Block → Int
  | [] => 0
  | b :: r => b.Size + sizes r

/-- how the first program holds a constituent while it goes -/
def z (p : Constituent × Int) : Constituent := ⟨p.1.Exp, p.1.Dim, 0, p.1.Odd, p.1.Oddity⟩

structure Gd (p : Constituent × Int) : Prop where
  det : p.2 = 1 ∨ p.2 = 3 ∨ p.2 = 5 ∨ p.2 = 7
  sign : p.1.Sign = sg p.2
  odd0 : 0 ≤ p.1.Oddity
  odd8 : p.1.Oddity < 8
  dim0 : 0 ≤ p.1.Dim
  dim1 : p.1.Dim ≤ 1000
  exp0 : 0 ≤ p.1.Exp
  exp1 : p.1.Exp ≤ 60

theorem bdet_odd {b : Block} (h : okb b) : bdet b = 1 ∨ bdet b = 3 ∨ bdet b = 5 ∨ bdet b = 7 := by
  unfold bdet
  rcases h with ⟨h1, h2, _, _⟩ | ⟨h1, h2, h3, h4⟩
  · rw [if_pos h1]; omega
  · rw [if_neg (by omega)]
    have a : b.A % 8 = 0 ∨ b.A % 8 = 2 ∨ b.A % 8 = 4 ∨ b.A % 8 = 6 := by omega
    have c : b.C % 8 = 0 ∨ b.C % 8 = 2 ∨ b.C % 8 = 4 ∨ b.C % 8 = 6 := by omega
    have d : b.B % 8 = 1 ∨ b.B % 8 = 3 ∨ b.B % 8 = 5 ∨ b.B % 8 = 7 := by omega
    rcases a with a | a | a | a <;> rcases c with c | c | c | c <;> rcases d with d | d | d | d <;> rw [a, c, d] <;> decide

theorem det_mul {D d : Int} (hD : D = 1 ∨ D = 3 ∨ D = 5 ∨ D = 7) (hd : d = 1 ∨ d = 3 ∨ d = 5 ∨ d = 7) :
    (D * d % 8 = 1 ∨ D * d % 8 = 3 ∨ D * d % 8 = 5 ∨ D * d % 8 = 7) ∧ sg (D * d % 8) = if d = 3 ∨ d = 5 then -(sg D) else sg D := by
  rcases hD with rfl | rfl | rfl | rfl <;> rcases hd with rfl | rfl | rfl | rfl <;> decide

theorem good_upd {p : Constituent × Int} {b : Block} (hp : Gd p) (hb : okb b) (hd : p.1.Dim ≤ 998) : Gd (upd p b) := by
  have h1 := det_mul hp.det (bdet_odd hb)
  have hs : b.Size = 1 ∨ b.Size = 2 := by rcases hb with h | h <;> simp [h.1]
  have o0 := hp.odd0; have o8 := hp.odd8; have d0 := hp.dim0
  refine ⟨h1.1, rfl, ?_, ?_, ?_, ?_, hp.exp0, hp.exp1⟩
  · unfold upd; dsimp only; split <;> omega
  · unfold upd; dsimp only; split <;> omega
  · unfold upd; dsimp only; omega
  · unfold upd; dsimp only; omega

theorem good_new {e : Int} (h : 0 ≤ e) (h' : e ≤ 60) : Gd (new e) := ⟨.inl rfl, rfl, by simp [new], by simp [new], by simp [new], by simp [new], h, h'⟩

end Go.Cn
namespace Go.Cn

/-! ### the first program's loop -/
def outP (pre : List (Constituent × Int)) (p : Constituent × Int) : List Constituent := pre.map z ++ [z p]
def detP (pre : List (Constituent × Int)) (p : Constituent × Int) : List Int := pre.map (·.2) ++ [p.2]

theorem iand7_mul (D a : Int) (h : D = 1 ∨ D = 3 ∨ D = 5 ∨ D = 7) : iand .i64 (IntKind.wrap .i64 (D * (a % 8))) 7 = D * (a % 8) % 8 := by
  have h1 : 0 ≤ a % 8 := by omega
  have h2 : a % 8 < 8 := by omega
  rw [wrap_id, iand_7]
  · rcases h with rfl | rfl | rfl | rfl <;> omega
  · rcases h with rfl | rfl | rfl | rfl <;> omega

theorem prod_bound (a c : Int) : 0 ≤ a % 8 * (c % 8) ∧ a % 8 * (c % 8) ≤ 49 := by
  have h1 : 0 ≤ a % 8 := by omega
  have h2 : a % 8 ≤ 7 := by omega
  have h3 : 0 ≤ c % 8 := by omega
  have h4 : c % 8 ≤ 7 := by omega
  exact ⟨Int.mul_nonneg h1 h3, Int.le_trans (Int.mul_le_mul h2 h4 h3 (by decide)) (by decide)⟩

theorem iand7_mul2 (D a b c : Int) (h : D = 1 ∨ D = 3 ∨ D = 5 ∨ D = 7) :
    iand .i64 (IntKind.wrap .i64 (D * (IntKind.wrap .i64 ((IntKind.wrap .i64 (a % 8 * (c % 8))) - (IntKind.wrap .i64 (b % 8 * (b % 8))))))) 7 = D * ((a % 8 * (c % 8) - b % 8 * (b % 8)) % 8) % 8 := by
  have h1 := prod_bound a c
  have h2 := prod_bound b b
  rw [wrap_id (x := a % 8 * (c % 8)) (by omega) (by omega), wrap_id (x := b % 8 * (b % 8)) (by omega) (by omega)]
  generalize a % 8 * (c % 8) = u at *
  generalize b % 8 * (b % 8) = v at *
  rw [wrap_id (x := u - v) (by omega) (by omega), wrap_id, iand_7]
  · rcases h with rfl | rfl | rfl | rfl <;> omega
  · rcases h with rfl | rfl | rfl | rfl <;> omega
  · rcases h with rfl | rfl | rfl | rfl <;> omega

theorem c0_val (k : Nat) (s0 s1) (v0 : Int) (v1 : List (List Int)) (v2 : List Block) (pre : List (Constituent × Int)) (p : Constituent × Int) (b : Block) (v10 v11 : Int) (v12 : List Block) (v13 v14 : Int) (hp : Gd p) (hb : okb b) (hd : p.1.Dim ≤ 998) (hl : pre.length < 1000) :
    Fdyadic_Constituents.c0 k s0 s1 v0 v1 v2 (outP pre p) (detP pre p) b.Exp b.Size b.A b.B b.C v10 v11 v12 v13 v14 = s1 v0 v1 v2 (outP pre (upd p b)) (detP pre (upd p b)) v10 v11 v12 v13 (IntKind.wrap .i64 (v14 + 1)) := by
  have hs : b.Size = 1 ∨ b.Size = 2 := by rcases hb with h | h <;> simp [h.1]
  have hl1 : (pre.map z).length < 1000000 := by simp; omega
  have hl2 : (pre.map (·.2)).length < 1000000 := by simp; omega
  have hlen : ((outP pre p).length : Int) = ((detP pre p).length : Int) := by simp [outP, detP]
  have e1 : elt (outP pre p) (IntKind.wrap .i64 (((outP pre p).length : Int) - 1)) = some (z p) := elt_last _ _ hl1
  have e2 : elt (detP pre p) (IntKind.wrap .i64 (((outP pre p).length : Int) - 1)) = some p.2 := by rw [hlen]; exact elt_last _ _ hl2
  have s1' : ∀ c, List.set (outP pre p) (IntKind.wrap .i64 (((outP pre p).length : Int) - 1)).toNat c = pre.map z ++ [c] := fun c => set_last _ _ _ hl1
  have s2' : ∀ c, List.set (detP pre p) (IntKind.wrap .i64 (((outP pre p).length : Int) - 1)).toNat c = pre.map (·.2) ++ [c] := fun c => by rw [hlen]; exact set_last _ _ _ hl2
  have s3' : ∀ c d, List.set (pre.map z ++ [c]) (IntKind.wrap .i64 (((outP pre p).length : Int) - 1)).toNat d = pre.map z ++ [d] := fun c d => by
    have : (outP pre p).length = (pre.map z ++ [c]).length := by simp [outP]
    rw [this]; exact set_last _ _ _ hl1
  have d0 := hp.dim0
  have o0 := hp.odd0; have o8 := hp.odd8
  unfold Fdyadic_Constituents.c0
  simp only [e1, e2, Option.bind_some, s1', s2', s3', iand_7]
  have hdim : IntKind.wrap .i64 ((z p).Dim + b.Size) = p.1.Dim + b.Size := wrap_id (by simp only [z]; omega) (by simp only [z]; omega)
  rw [hdim]
  rcases hs with hs | hs
  · rw [if_pos hs]
    have hodd : IntKind.wrap .i64 ((z p).Oddity + b.A % 8) = p.1.Oddity + b.A % 8 := wrap_id (by simp only [z]; omega) (by simp only [z]; omega)
    have hdt := iand7_mul p.2 b.A hp.det
    rw [iand_7] at hdt
    rw [hodd, hdt]
    simp only [outP, detP, upd, bdet, hs, z, if_true, decide_true, Bool.or_true]
  · have hs1 : ¬ b.Size = 1 := by omega
    rw [if_neg hs1]
    have hdt := iand7_mul2 p.2 b.A b.B b.C hp.det
    rw [iand_7] at hdt
    rw [hdt]
    simp only [outP, detP, upd, bdet, hs1, z, if_false, decide_false, Bool.or_false]

end Go.Cn
