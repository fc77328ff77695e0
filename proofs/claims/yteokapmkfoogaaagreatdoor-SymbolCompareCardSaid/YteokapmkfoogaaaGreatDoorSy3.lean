/- The order of symbols. -/
import Derived.Test.YteokapmkfoogaaaGreatDoorTa5
set_option linter.unusedVariables false
noncomputable section
open Classical
namespace Go.Cn

def cmpS (a b : Int) : Int := if a < b then -1 else if a > b then 1 else 0
theorem cmpS_flip (a b : Int) : cmpS b a = - cmpS a b := by
  have h : a < b ∨ a = b ∨ b < a := by omega
  rcases h with h | rfl | h
  · have h2 : ¬ b < a := by omega
    simp [cmpS, h, h2]
  · simp [cmpS]
  · have h2 : ¬ a < b := by omega
    simp [cmpS, h, h2]
theorem cmpS_self (a : Int) : cmpS a a = 0 := by unfold cmpS; rw [if_neg (by omega), if_neg (by omega)]
theorem cmpS_range (a b : Int) : cmpS a b = -1 ∨ cmpS a b = 0 ∨ cmpS a b = 1 := by
  unfold cmpS
  split
  · exact .inl rfl
  · split
    · exact .inr (.inr rfl)
    · exact .inr (.inl rfl)
theorem signP_val (k : Nat) (a b : Int) : Fsymbol_sign k a b = some (cmpS a b) := by
  unfold Fsymbol_sign Fsymbol_sign.b cmpS
  split
  · rfl
  · split <;> rfl
theorem signR_val (k : Nat) (a b : Int) : Fquadformref26_sign k a b = some (cmpS a b) := by
  unfold Fquadformref26_sign Fquadformref26_sign.b cmpS
  split
  · rfl
  · split <;> rfl

def fst0 (a b : Int) : Int := if a = 0 then b else a
def bitS (b : Bool) : Int := if b = true then 1 else 0
def cmpC (x y : Constituent) : Int := fst0 (cmpS x.Exp y.Exp) (fst0 (cmpS x.Dim y.Dim) (fst0 (cmpS x.Sign y.Sign) (fst0 (cmpS (bitS x.Odd) (bitS y.Odd)) (cmpS x.Oddity y.Oddity))))
theorem fst0_neg (a b : Int) : fst0 (-a) (-b) = - fst0 a b := by
  unfold fst0
  by_cases h : a = 0
  · rw [if_pos h, if_pos (by omega)]
  · rw [if_neg h, if_neg (by omega)]
theorem fst0_range {a b : Int} (ha : a = -1 ∨ a = 0 ∨ a = 1) (hb : b = -1 ∨ b = 0 ∨ b = 1) : fst0 a b = -1 ∨ fst0 a b = 0 ∨ fst0 a b = 1 := by
  unfold fst0; split
  · exact hb
  · exact ha
theorem cmpC_flip (x y : Constituent) : cmpC y x = - cmpC x y := by
  unfold cmpC
  rw [cmpS_flip x.Exp, cmpS_flip x.Dim, cmpS_flip x.Sign, cmpS_flip (bitS x.Odd), cmpS_flip x.Oddity, fst0_neg, fst0_neg, fst0_neg, fst0_neg]
theorem cmpC_self (x : Constituent) : cmpC x x = 0 := by
  unfold cmpC
  simp only [cmpS_self]
  rfl
theorem cmpC_range (x y : Constituent) : cmpC x y = -1 ∨ cmpC x y = 0 ∨ cmpC x y = 1 := by
  unfold cmpC
  exact fst0_range (cmpS_range _ _) (fst0_range (cmpS_range _ _) (fst0_range (cmpS_range _ _) (fst0_range (cmpS_range _ _) (cmpS_range _ _))))

open Fsymbol_constituents in
theorem conP_val (k : Nat) (hk : 10 ≤ k) (x y : Constituent) : Fsymbol_constituents k x.Exp x.Dim x.Sign x.Odd x.Oddity y.Exp y.Dim y.Sign y.Odd y.Oddity = some (cmpC x y) := by
  unfold Fsymbol_constituents Fsymbol_constituents.b
  have hb : ∀ b : Bool, Fsymbol_bit k b = some (bitS b) := fun b => by
    unfold Fsymbol_bit Fsymbol_bit.b bitS; split <;> rfl
  rw [hb, Option.bind_some, hb, Option.bind_some]
  obtain ⟨j, rfl⟩ : ∃ i, k = i + 6 := ⟨k - 6, by omega⟩
  have step : ∀ (m : Nat) (a b c d e a' b' c' d' e' i : Int) (x y : Int), i < 5 → elt [a, b, c, d, e] i = some x → elt [a', b', c', d', e'] i = some y →
      l0 (j + 6) (m + 1) a b c d e a' b' c' d' e' 5 i = if cmpS x y = 0 then l0 (j + 6) m a b c d e a' b' c' d' e' 5 (IntKind.wrap .i64 (i + 1)) else some (.ret (cmpS x y)) := by
    intro m a b c d e a' b' c' d' e' i x y hi hx hy
    show l0_b (j + 6) (l0 (j + 6) m) _ _ _ _ _ _ _ _ _ _ _ _ = _
    unfold l0_b
    rw [if_pos hi, hx, Option.bind_some, hy, Option.bind_some, signP_val, Option.bind_some]
  rw [step (j + 5) _ _ _ _ _ _ _ _ _ _ 0 _ _ (by decide) rfl rfl]
  unfold cmpC fst0
  by_cases h1 : cmpS x.Exp y.Exp = 0
  case neg => rw [if_neg h1, if_neg h1]; rfl
  rw [if_pos h1, if_pos h1, show IntKind.wrap .i64 (0 + 1) = 1 by rfl, step (j + 4) _ _ _ _ _ _ _ _ _ _ 1 _ _ (by decide) rfl rfl]
  by_cases h2 : cmpS x.Dim y.Dim = 0
  case neg => rw [if_neg h2, if_neg h2]; rfl
  rw [if_pos h2, if_pos h2, show IntKind.wrap .i64 (1 + 1) = 2 by rfl, step (j + 3) _ _ _ _ _ _ _ _ _ _ 2 _ _ (by decide) rfl rfl]
  by_cases h3 : cmpS x.Sign y.Sign = 0
  case neg => rw [if_neg h3, if_neg h3]; rfl
  rw [if_pos h3, if_pos h3, show IntKind.wrap .i64 (2 + 1) = 3 by rfl, step (j + 2) _ _ _ _ _ _ _ _ _ _ 3 _ _ (by decide) rfl rfl]
  by_cases h4 : cmpS (bitS x.Odd) (bitS y.Odd) = 0
  case neg => rw [if_neg h4, if_neg h4]; rfl
  rw [if_pos h4, if_pos h4, show IntKind.wrap .i64 (3 + 1) = 4 by rfl, step (j + 1) _ _ _ _ _ _ _ _ _ _ 4 _ _ (by decide) rfl rfl]
  by_cases h5 : cmpS x.Oddity y.Oddity = 0
  case neg => rw [if_neg h5]; rfl
  rw [if_pos h5, h5, show IntKind.wrap .i64 (4 + 1) = 5 by rfl]
  have e : l0 (j + 6) (j + 1) x.Exp x.Dim x.Sign (bitS x.Odd) x.Oddity y.Exp y.Dim y.Sign (bitS y.Odd) y.Oddity 5 5 = some .x0 := by
    show l0_b (j + 6) (l0 (j + 6) j) _ _ _ _ _ _ _ _ _ _ _ _ = _
    unfold l0_b
    rw [if_neg (by decide)]
  rw [e]; rfl

open Fquadformref26_CompareConstituents in
theorem conR_val (k : Nat) (hk : 10 ≤ k) (x y : Constituent) : Fquadformref26_CompareConstituents k x.Exp x.Dim x.Sign x.Odd x.Oddity y.Exp y.Dim y.Sign y.Odd y.Oddity = some (cmpC x y) := by
  unfold Fquadformref26_CompareConstituents Fquadformref26_CompareConstituents.b
  have hb : ∀ b : Bool, Fquadformref26_number k b = some (bitS b) := fun b => by
    unfold Fquadformref26_number Fquadformref26_number.b bitS; split <;> rfl
  rw [hb, Option.bind_some, hb, Option.bind_some]
  obtain ⟨j, rfl⟩ : ∃ i, k = i + 6 := ⟨k - 6, by omega⟩
  have step : ∀ (m : Nat) (a b c d e a' b' c' d' e' i : Int) (x y : Int), i < 5 → elt [a, b, c, d, e] i = some x → elt [a', b', c', d', e'] i = some y →
      l0 (j + 6) (m + 1) a b c d e a' b' c' d' e' i = if cmpS x y = 0 then l0 (j + 6) m a b c d e a' b' c' d' e' (IntKind.wrap .i64 (i + 1)) else some (.ret (cmpS x y)) := by
    intro m a b c d e a' b' c' d' e' i x y hi hx hy
    show l0_b (j + 6) (l0 (j + 6) m) _ _ _ _ _ _ _ _ _ _ _ = _
    unfold l0_b
    rw [if_pos hi, hx, Option.bind_some, hy, Option.bind_some, signR_val, Option.bind_some]
  rw [step (j + 5) _ _ _ _ _ _ _ _ _ _ 0 _ _ (by decide) rfl rfl]
  unfold cmpC fst0
  by_cases h1 : cmpS x.Exp y.Exp = 0
  case neg => rw [if_neg h1, if_neg h1]; rfl
  rw [if_pos h1, if_pos h1, show IntKind.wrap .i64 (0 + 1) = 1 by rfl, step (j + 4) _ _ _ _ _ _ _ _ _ _ 1 _ _ (by decide) rfl rfl]
  by_cases h2 : cmpS x.Dim y.Dim = 0
  case neg => rw [if_neg h2, if_neg h2]; rfl
  rw [if_pos h2, if_pos h2, show IntKind.wrap .i64 (1 + 1) = 2 by rfl, step (j + 3) _ _ _ _ _ _ _ _ _ _ 2 _ _ (by decide) rfl rfl]
  by_cases h3 : cmpS x.Sign y.Sign = 0
  case neg => rw [if_neg h3, if_neg h3]; rfl
  rw [if_pos h3, if_pos h3, show IntKind.wrap .i64 (2 + 1) = 3 by rfl, step (j + 2) _ _ _ _ _ _ _ _ _ _ 3 _ _ (by decide) rfl rfl]
  by_cases h4 : cmpS (bitS x.Odd) (bitS y.Odd) = 0
  case neg => rw [if_neg h4, if_neg h4]; rfl
  rw [if_pos h4, if_pos h4, show IntKind.wrap .i64 (3 + 1) = 4 by rfl, step (j + 1) _ _ _ _ _ _ _ _ _ _ 4 _ _ (by decide) rfl rfl]
  by_cases h5 : cmpS x.Oddity y.Oddity = 0
  case neg => rw [if_neg h5]; rfl
  rw [if_pos h5, h5, show IntKind.wrap .i64 (4 + 1) = 5 by rfl]
  have e : l0 (j + 6) (j + 1) x.Exp x.Dim x.Sign (bitS x.Odd) x.Oddity y.Exp y.Dim y.Sign (bitS y.Odd) y.Oddity 5 = some .x0 := by
    show l0_b (j + 6) (l0 (j + 6) j) _ _ _ _ _ _ _ _ _ _ _ = _
    unfold l0_b
    rw [if_neg (by decide)]
  rw [e]; rfl

def cmpL : List Constituent → List Constituent → Int
  | a :: A, b :: B => if cmpC a b = 0 then cmpL A B else cmpC a b
  | [], B => cmpS (([] : List Constituent).length : Int) (B.length : Int)
  | a :: A, [] => cmpS ((a :: A).length : Int) (([] : List Constituent).length : Int)
theorem cmpL_flip : ∀ (A B : List Constituent), cmpL B A = - cmpL A B
  | [], [] => by simp only [cmpL]; rw [cmpS_self]; rfl
  | [], b :: B => by simp only [cmpL]; rw [cmpS_flip]
  | a :: A, [] => by simp only [cmpL]; rw [cmpS_flip]
  | a :: A, b :: B => by
    simp only [cmpL]
    rw [cmpC_flip a b]
    by_cases h : cmpC a b = 0
    · rw [if_pos h, if_pos (by omega), cmpL_flip A B]
    · rw [if_neg h, if_neg (by omega)]
theorem cmpL_self : ∀ (A : List Constituent), cmpL A A = 0
  | [] => by simp only [cmpL]; rw [cmpS_self]
  | a :: A => by simp only [cmpL]; rw [if_pos (cmpC_self a), cmpL_self A]
theorem cmpL_range : ∀ (A B : List Constituent), cmpL A B = -1 ∨ cmpL A B = 0 ∨ cmpL A B = 1
  | [], [] => by simp only [cmpL]; exact cmpS_range _ _
  | [], b :: B => by simp only [cmpL]; exact cmpS_range _ _
  | a :: A, [] => by simp only [cmpL]; exact cmpS_range _ _
  | a :: A, b :: B => by
    simp only [cmpL]
    split
    · exact cmpL_range A B
    · exact cmpC_range a b
theorem cmpS_add (a b n : Int) : cmpS (a + n) (b + n) = cmpS a b := by
  unfold cmpS
  by_cases h1 : a < b
  · rw [if_pos h1, if_pos (by omega)]
  · rw [if_neg h1, if_neg (by omega)]
    by_cases h2 : a > b
    · rw [if_pos h2, if_pos (by omega)]
    · rw [if_neg h2, if_neg (by omega)]

open Fsymbol_Compare in
theorem comP_loop (k : Nat) (hk : 10 ≤ k) (p q : Int) (A B : List Constituent) (hA : A.length ≤ 1000) : ∀ (ra rb : List Constituent) (j n : Nat), ra.length < j → A.drop n = ra → B.drop n = rb → n ≤ A.length → n ≤ B.length →
    ((l0 k j p A q B (n : Int)).bind fun o => match o with | .ret r => some r | .x0 v0 v1 v2 v3 => Fsymbol_Compare.c0 k v0 v1 v2 v3) = some (cmpL ra rb) := by
  intro ra
  induction ra with
  | nil =>
    intro rb j n hj ha hb hn hn'
    obtain ⟨j, rfl⟩ : ∃ i, j = i + 1 := ⟨j - 1, by omega⟩
    have e := elt_end ha hn
    show ((l0_b k (l0 k j) _ _ _ _ _).bind _) = _
    unfold l0_b
    rw [if_neg (by omega), Option.bind_some]
    show Fsymbol_Compare.c0 k p A q B = _
    unfold Fsymbol_Compare.c0
    rw [signP_val, Option.bind_some]
    have hbl : (rb.length : Int) = (B.length : Int) - n := by rw [← hb]; simp; omega
    have : cmpS (A.length : Int) (B.length : Int) = cmpS 0 ((B.length : Int) - n) := by
      have := cmpS_add 0 ((B.length : Int) - n) (n : Int)
      rw [← this]; congr 1 <;> omega
    rw [this, ← hbl]
    cases rb <;> simp [cmpL]
  | cons a ra ih =>
    intro rb j n hj ha hb hn hn'
    obtain ⟨j, rfl⟩ : ∃ i, j = i + 1 := ⟨j - 1, by omega⟩
    obtain ⟨f1, f2, f3, f4⟩ := elt_drop ha
    simp only [List.length_cons] at hj
    show ((l0_b k (l0 k j) _ _ _ _ _).bind _) = _
    unfold l0_b
    rw [if_pos (by omega)]
    cases rb with
    | nil =>
      have e := elt_end hb hn'
      rw [if_neg (by omega), Option.bind_some]
      show Fsymbol_Compare.c0 k p A q B = _
      unfold Fsymbol_Compare.c0
      rw [signP_val, Option.bind_some]
      have hal : ((a :: ra).length : Int) = (A.length : Int) - n := by rw [← ha]; simp; omega
      have : cmpS (A.length : Int) (B.length : Int) = cmpS ((A.length : Int) - n) 0 := by
        have := cmpS_add ((A.length : Int) - n) 0 (n : Int)
        rw [← this]; congr 1 <;> omega
      rw [this, ← hal]
      simp [cmpL]
    | cons b rb =>
      obtain ⟨g1, g2, g3, g4⟩ := elt_drop hb
      rw [if_pos (by omega), f2, Option.bind_some, g2, Option.bind_some, conP_val k hk, Option.bind_some]
      simp only [cmpL]
      by_cases h : cmpC a b = 0
      · rw [if_pos h, if_pos h, wrap_succ (by omega)]
        exact ih rb j (n + 1) (by omega) f3 g3 (by omega) (by omega)
      · rw [if_neg h, if_neg h]; rfl

open Fquadformref26_Compare in
theorem comR_loop (k : Nat) (hk : 10 ≤ k) (p q : Int) (A B : List Constituent) (hA : A.length ≤ 1000) : ∀ (ra rb : List Constituent) (j n : Nat), ra.length < j → A.drop n = ra → B.drop n = rb → n ≤ A.length → n ≤ B.length →
    ((l0 k j p A q B (n : Int)).bind fun o => match o with | .ret r => some r | .x0 v0 v1 v2 v3 => Fquadformref26_Compare.c0 k v0 v1 v2 v3) = some (cmpL ra rb) := by
  intro ra
  induction ra with
  | nil =>
    intro rb j n hj ha hb hn hn'
    obtain ⟨j, rfl⟩ : ∃ i, j = i + 1 := ⟨j - 1, by omega⟩
    have e := elt_end ha hn
    show ((l0_b k (l0 k j) _ _ _ _ _).bind _) = _
    unfold l0_b
    rw [if_neg (by omega), Option.bind_some]
    show Fquadformref26_Compare.c0 k p A q B = _
    unfold Fquadformref26_Compare.c0
    rw [signR_val, Option.bind_some]
    have hbl : (rb.length : Int) = (B.length : Int) - n := by rw [← hb]; simp; omega
    have : cmpS (A.length : Int) (B.length : Int) = cmpS 0 ((B.length : Int) - n) := by
      have := cmpS_add 0 ((B.length : Int) - n) (n : Int)
      rw [← this]; congr 1 <;> omega
    rw [this, ← hbl]
    cases rb <;> simp [cmpL]
  | cons a ra ih =>
    intro rb j n hj ha hb hn hn'
    obtain ⟨j, rfl⟩ : ∃ i, j = i + 1 := ⟨j - 1, by omega⟩
    obtain ⟨f1, f2, f3, f4⟩ := elt_drop ha
    simp only [List.length_cons] at hj
    show ((l0_b k (l0 k j) _ _ _ _ _).bind _) = _
    unfold l0_b
    rw [if_pos (by omega)]
    cases rb with
    | nil =>
      have e := elt_end hb hn'
      rw [if_neg (by omega), Option.bind_some]
      show Fquadformref26_Compare.c0 k p A q B = _
      unfold Fquadformref26_Compare.c0
      rw [signR_val, Option.bind_some]
      have hal : ((a :: ra).length : Int) = (A.length : Int) - n := by rw [← ha]; simp; omega
      have : cmpS (A.length : Int) (B.length : Int) = cmpS ((A.length : Int) - n) 0 := by
        have := cmpS_add ((A.length : Int) - n) 0 (n : Int)
        rw [← this]; congr 1 <;> omega
      rw [this, ← hal]
      simp [cmpL]
    | cons b rb =>
      obtain ⟨g1, g2, g3, g4⟩ := elt_drop hb
      rw [if_pos (by omega), f2, Option.bind_some, g2, Option.bind_some, conR_val k hk, Option.bind_some]
      simp only [cmpL]
      by_cases h : cmpC a b = 0
      · rw [if_pos h, if_pos h, wrap_succ (by omega)]
        exact ih rb j (n + 1) (by omega) f3 g3 (by omega) (by omega)
      · rw [if_neg h, if_neg h]; rfl

def cmpA (p : Int) (A : List Constituent) (q : Int) (B : List Constituent) : Int := fst0 (cmpS p q) (cmpL A B)
theorem comP_val (k : Nat) (hk : 10 ≤ k) (p q : Int) (A B : List Constituent) (hA : A.length ≤ 1000) (hkA : A.length < k) : Fsymbol_Compare k p A q B = some (cmpA p A q B) := by
  unfold Fsymbol_Compare Fsymbol_Compare.b cmpA fst0
  rw [signP_val, Option.bind_some]
  by_cases h : cmpS p q = 0
  · rw [if_pos h, if_pos h]
    exact comP_loop k hk p q A B hA A B k 0 hkA rfl rfl (by omega) (by omega)
  · rw [if_neg h, if_neg h]
theorem comR_val (k : Nat) (hk : 10 ≤ k) (p q : Int) (A B : List Constituent) (hA : A.length ≤ 1000) (hkA : A.length < k) : Fquadformref26_Compare k p A q B = some (cmpA p A q B) := by
  unfold Fquadformref26_Compare Fquadformref26_Compare.b cmpA fst0
  rw [signR_val, Option.bind_some]
  by_cases h : cmpS p q = 0
  · rw [if_pos h, if_pos h]
    exact comR_loop k hk p q A B hA A B k 0 hkA rfl rfl (by omega) (by omega)
  · rw [if_neg h, if_neg h]

theorem com_c1 (p q : Int) (A B : List Constituent) (hA : A.length ≤ 100) (hB : B.length ≤ 100) : Fquadformlaw26_SymbolCompare.c1 2000 p A q B = some true := by
  unfold Fquadformlaw26_SymbolCompare.c1
  rw [comP_val 2000 (by decide) p q A B (by omega) (by omega), Option.bind_some, comR_val 2000 (by decide) p q A B (by omega) (by omega), Option.bind_some, if_pos rfl, comP_val 2000 (by decide) q p B A (by omega) (by omega), Option.bind_some]
  have h1 : cmpA q B p A = - cmpA p A q B := by unfold cmpA; rw [cmpS_flip p q, cmpL_flip A B, fst0_neg]
  have h2 : cmpA p A q B = -1 ∨ cmpA p A q B = 0 ∨ cmpA p A q B = 1 := fst0_range (cmpS_range _ _) (cmpL_range _ _)
  have h3 : IntKind.wrap .i64 (0 - cmpA p A q B) = - cmpA p A q B := by rw [wrap_id (by omega) (by omega)]; omega
  have h4 : cmpA p A p A = 0 := by unfold cmpA; rw [cmpS_self, cmpL_self]; rfl
  rw [h1, h3, if_pos rfl, comP_val 2000 (by decide) p p A A (by omega) (by omega), Option.bind_some, h4, if_pos rfl]
  rfl

/-- The plain law. -/
theorem lawCompare (p0_Prime : Int) (p0_List : List Constituent) (p1_Prime : Int) (p1_List : List Constituent) (p2_Prime : Int) (p2_Parts : List A5u8) (p3_Prime : Int) (p3_Parts : List A5u8) (p4 p5 p6 : Int) (p7 p8 : Bool)
    (h2 : okI .u8 p2_Prime) (h2' : okL ok_A5u8 p2_Parts) (h3 : okI .u8 p3_Prime) (h3' : okL ok_A5u8 p3_Parts) (h4 : okI .u8 p4) :
    Fquadformlaw26_SymbolCompare 2000 p0_Prime p0_List p1_Prime p1_List p2_Prime p2_Parts p3_Prime p3_Parts p4 p5 p6 p7 p8 = some true := by
  unfold Fquadformlaw26_SymbolCompare Fquadformlaw26_SymbolCompare.b Fquadformlaw26_long Fquadformlaw26_long.b
  rw [Option.bind_some]
  by_cases l1 : (p0_List.length : Int) > 20
  · rw [if_pos (by simpa using l1)]; rfl
  rw [if_neg (by simpa using l1), Option.bind_some]
  by_cases l2 : (p1_List.length : Int) > 20
  · rw [if_pos (by simpa using l2)]; rfl
  rw [if_neg (by simpa using l2)]
  by_cases l3 : (p2_Parts.length : Int) > 20
  · rw [if_pos l3]; rfl
  rw [if_neg l3]
  by_cases l4 : (p3_Parts.length : Int) > 20
  · rw [if_pos l4]; rfl
  rw [if_neg l4]
  have c0 : ∀ (p q : Int) (A B : List Constituent), A.length ≤ 20 → B.length ≤ 20 → Fquadformlaw26_SymbolCompare.c0 2000 p A q B p4 p5 p6 p8 = some true := by
    intro p q A B hA hB
    unfold Fquadformlaw26_SymbolCompare.c0
    cases p8 with
    | true =>
      obtain ⟨q', o', e, hl⟩ := bent_some 2000 p A p4 p5 p6 (by omega) h4
      rw [if_pos rfl, e, Option.bind_some]
      exact com_c1 p q' A o' (by omega) (by omega)
    | false =>
      rw [if_neg (by decide)]
      exact com_c1 p q A B (by omega) (by omega)
  cases p7 with
  | true =>
    obtain ⟨q, o, e, hl⟩ := any_some 2000 (by decide) p2_Prime p2_Parts h2 (by omega) h2'.2
    obtain ⟨q', o', e', hl'⟩ := any_some 2000 (by decide) p3_Prime p3_Parts h3 (by omega) h3'.2
    rw [if_pos rfl, e, Option.bind_some, e', Option.bind_some]
    exact c0 q q' o o' (by omega) (by omega)
  | false =>
    rw [if_neg (by decide)]
    exact c0 _ _ _ _ (by omega) (by omega)

end Go.Cn
