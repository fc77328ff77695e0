/- The sum of symbols: commutative, associative, and the excess. -/
import Derived.Test.YteokapmkfoogaaaGreatDoorQu4
set_option linter.unusedVariables false
noncomputable section
open Classical
namespace Go.Cn

theorem jn_comm {x y : Constituent} (h : x.Exp = y.Exp) : jn x y = jn y x := by
  unfold jn; rw [h, Int.add_comm x.Dim, Int.mul_comm x.Sign]
theorem jn_assoc (x y z : Constituent) : jn (jn x y) z = jn x (jn y z) := by
  unfold jn; simp only [Int.add_assoc, Int.mul_assoc]

theorem addS_comm : ∀ (N : Nat) (a b : List Constituent), a.length + b.length ≤ N → addS a b = addS b a := by
  intro N
  induction N with
  | zero =>
    intro a b h
    rw [nil_of_len (l := a) (by omega), nil_of_len (l := b) (by omega)]
  | succ N ih =>
    intro a b h
    cases a with
    | nil => rw [addS_nil, addS_nil']
    | cons x a =>
      cases b with
      | nil => rw [addS_nil, addS_nil']
      | cons y b =>
        simp only [List.length_cons] at h
        rcases Int.lt_trichotomy x.Exp y.Exp with h1 | h1 | h1
        · rw [addS_lt h1, addS_gt h1, ih a (y :: b) (by simp only [List.length_cons]; omega)]
        · rw [addS_eq h1, addS_eq h1.symm, jn_comm h1, ih a b (by omega)]
        · rw [addS_gt h1, addS_lt h1, ih (x :: a) b (by simp only [List.length_cons]; omega)]

theorem addS_assoc : ∀ (N : Nat) (a b c : List Constituent), a.length + b.length + c.length ≤ N → addS (addS a b) c = addS a (addS b c) := by
  intro N
  induction N with
  | zero =>
    intro a b c h
    rw [nil_of_len (l := a) (by omega), nil_of_len (l := b) (by omega), nil_of_len (l := c) (by omega)]
    simp only [addS_nil]
  | succ N ih =>
    intro a b c h
    cases a with
    | nil => rw [addS_nil, addS_nil]
    | cons x a =>
      cases b with
      | nil => rw [addS_nil', addS_nil]
      | cons y b =>
        cases c with
        | nil => rw [addS_nil', addS_nil']
        | cons z c =>
          simp only [List.length_cons] at h
          have i1 := ih a (y :: b) (z :: c) (by simp only [List.length_cons]; omega)
          have i2 := ih (x :: a) b (z :: c) (by simp only [List.length_cons]; omega)
          have i3 := ih (x :: a) (y :: b) c (by simp only [List.length_cons]; omega)
          have i4 := ih a b (z :: c) (by simp only [List.length_cons]; omega)
          have i5 := ih a (y :: b) c (by simp only [List.length_cons]; omega)
          have i6 := ih (x :: a) b c (by simp only [List.length_cons]; omega)
          have i7 := ih a b c (by omega)
          have jx : ∀ u v : Constituent, (jn u v).Exp = u.Exp := fun u v => rfl
          rcases Int.lt_trichotomy x.Exp y.Exp with h1 | h1 | h1
          · rcases Int.lt_trichotomy x.Exp z.Exp with h2 | h2 | h2
            · rw [addS_lt h1, addS_lt h2, i1]
              rcases Int.lt_trichotomy y.Exp z.Exp with h3 | h3 | h3
              · rw [addS_lt h3, addS_lt h1]
              · rw [addS_eq h3, addS_lt (by rw [jx]; exact h1)]
              · rw [addS_gt h3, addS_lt h2]
            · rw [addS_lt h1, addS_eq h2, i5, addS_gt (show z.Exp < y.Exp by omega), addS_eq h2]
            · rw [addS_lt h1, addS_gt h2, ← addS_lt h1, i3, addS_gt (show z.Exp < y.Exp by omega), addS_gt h2]
          · rcases Int.lt_trichotomy x.Exp z.Exp with h2 | h2 | h2
            · rw [addS_eq h1, addS_lt (by rw [jx]; exact h2), i4, addS_lt (show y.Exp < z.Exp by omega), addS_eq h1]
            · rw [addS_eq h1, addS_eq (by rw [jx]; exact h2), i7, addS_eq (show y.Exp = z.Exp by omega), addS_eq (by rw [jx]; exact h1), jn_assoc]
            · rw [addS_eq h1, addS_gt (by rw [jx]; exact h2), ← addS_eq h1, i3, addS_gt (show z.Exp < y.Exp by omega), addS_gt h2]
          · rcases Int.lt_trichotomy y.Exp z.Exp with h2 | h2 | h2
            · rw [addS_gt h1, addS_lt h2, i2, addS_lt h2, addS_gt h1]
            · rw [addS_gt h1, addS_eq h2, i6, addS_eq h2, addS_gt (by rw [jx]; exact h1)]
            · rw [addS_gt h1, addS_gt h2, ← addS_gt h1, i3, addS_gt h2, addS_gt (show z.Exp < x.Exp by omega)]

theorem fP_jn (p : Int) {x y : Constituent} (h : x.Exp = y.Exp) (hx : signed x) (hy : signed y) : ∃ q, fP p (jn x y) + 8 * q = fP p x + fP p y := by
  unfold fP
  rw [show (jn x y).Exp = x.Exp from rfl, show (jn x y).Dim = x.Dim + y.Dim from rfl, show (jn x y).Sign = x.Sign * y.Sign from rfl, ← h]
  by_cases h0 : x.Exp % 2 = 0
  · rw [if_pos h0, if_pos h0, if_pos h0]; exact ⟨0, by omega⟩
  rw [if_neg h0, if_neg h0, if_neg h0, Int.add_mul]
  rcases hx with g | g <;> rcases hy with g' | g' <;> rw [g, g']
  · exact ⟨0, by simp⟩
  · exact ⟨0, by simp; omega⟩
  · exact ⟨0, by simp; omega⟩
  · exact ⟨1, by simp; omega⟩

theorem fsum_add (p : Int) : ∀ (N : Nat) (a b : List Constituent), a.length + b.length ≤ N → (∀ c ∈ a, signed c) → (∀ c ∈ b, signed c) → ∃ q, fsum p (addS a b) + 8 * q = fsum p a + fsum p b := by
  intro N
  induction N with
  | zero =>
    intro a b h _ _
    rw [nil_of_len (l := a) (by omega), nil_of_len (l := b) (by omega), addS_nil]
    exact ⟨0, rfl⟩
  | succ N ih =>
    intro a b h ha hb
    cases a with
    | nil => rw [addS_nil]; exact ⟨0, by simp [fsum]⟩
    | cons x a =>
      cases b with
      | nil => rw [addS_nil']; exact ⟨0, by simp [fsum]⟩
      | cons y b =>
        simp only [List.length_cons] at h
        rcases Int.lt_trichotomy x.Exp y.Exp with h1 | h1 | h1
        · obtain ⟨q, hq⟩ := ih a (y :: b) (by simp only [List.length_cons]; omega) (fun c hc => ha c (by simp [hc])) hb
          rw [addS_lt h1]; exact ⟨q, by simp only [fsum] at hq ⊢; omega⟩
        · obtain ⟨q, hq⟩ := ih a b (by omega) (fun c hc => ha c (by simp [hc])) (fun c hc => hb c (by simp [hc]))
          obtain ⟨q', hq'⟩ := fP_jn p h1 (ha x (by simp)) (hb y (by simp))
          rw [addS_eq h1]; exact ⟨q + q', by simp only [fsum] at hq ⊢; omega⟩
        · obtain ⟨q, hq⟩ := ih (x :: a) b (by simp only [List.length_cons]; omega) ha (fun c hc => hb c (by simp [hc]))
          rw [addS_gt h1]; exact ⟨q, by simp only [fsum] at hq ⊢; omega⟩

theorem dims_pos : ∀ {r : List Constituent} {e : Int}, ascP e r → 0 ≤ dims r := fun {r} {e} h => by have := dims_len r e h; omega

theorem asc_add : ∀ (N : Nat) (a b : List Constituent) (e : Int), a.length + b.length ≤ N → ascP e a → ascP e b → dims a + dims b ≤ 8 → ascP e (addS a b) ∧ dims (addS a b) = dims a + dims b := by
  intro N
  induction N with
  | zero =>
    intro a b e h _ _ _
    rw [nil_of_len (l := a) (by omega), nil_of_len (l := b) (by omega), addS_nil]
    exact ⟨trivial, rfl⟩
  | succ N ih =>
    intro a b e h ha hb hd
    cases a with
    | nil => rw [addS_nil]; exact ⟨hb, by simp [dims]⟩
    | cons x a =>
      cases b with
      | nil => rw [addS_nil']; exact ⟨ha, by simp [dims]⟩
      | cons y b =>
        have ha0 := ha; have hb0 := hb
        simp only [ascP] at ha hb
        obtain ⟨a1, a2, a3, a4, a5, a6, a7⟩ := ha
        obtain ⟨b1, b2, b3, b4, b5, b6, b7⟩ := hb
        have pa := dims_pos a7; have pb := dims_pos b7
        simp only [List.length_cons] at h
        simp only [dims] at hd
        rcases Int.lt_trichotomy x.Exp y.Exp with h1 | h1 | h1
        · obtain ⟨q1, q2⟩ := ih a (y :: b) x.Exp (by simp only [List.length_cons]; omega) a7 (by simp only [ascP]; exact ⟨h1, b2, b3, b4, b5, b6, b7⟩) (by simp only [dims]; omega)
          rw [addS_lt h1]; simp only [ascP, dims] at q2 ⊢; exact ⟨⟨a1, a2, a3, a4, a5, a6, q1⟩, by omega⟩
        · obtain ⟨q1, q2⟩ := ih a b x.Exp (by omega) a7 (by rw [h1]; exact b7) (by omega)
          rw [addS_eq h1]; simp only [ascP, dims]
          refine ⟨⟨a1, a2, ?_, ?_, ?_, ⟨rfl, rfl⟩, q1⟩, ?_⟩
          · show 1 ≤ x.Dim + y.Dim; omega
          · show x.Dim + y.Dim ≤ 8; omega
          · show signed (jn x y)
            unfold signed
            show x.Sign * y.Sign = 1 ∨ x.Sign * y.Sign = -1
            rcases a5 with g | g <;> rcases b5 with g' | g' <;> rw [g, g'] <;> simp
          · show x.Dim + y.Dim + dims (addS a b) = _; omega
        · obtain ⟨q1, q2⟩ := ih (x :: a) b y.Exp (by simp only [List.length_cons]; omega) (by simp only [ascP]; exact ⟨h1, a2, a3, a4, a5, a6, a7⟩) b7 (by simp only [dims]; omega)
          rw [addS_gt h1]; simp only [ascP, dims] at q2 ⊢; exact ⟨⟨b1, b2, b3, b4, b5, b6, q1⟩, by omega⟩

theorem sym_add {p : Int} {a b : List Constituent} (ha : symP p a) (hb : symP p b) (hd : dims a + dims b ≤ 8) : symP p (addS a b) ∧ dims (addS a b) = dims a + dims b := by
  obtain ⟨q1, q2⟩ := asc_add _ a b (-1) (Nat.le_refl _) ha.2.2.2.1 hb.2.2.2.1 hd
  have h1 := dims_len _ _ q1
  have h2 := dims_len _ _ ha.2.2.2.1
  have h3 := dims_len _ _ hb.2.2.2.1
  have h4 := ha.2.1
  refine ⟨⟨ha.1, ?_, by omega, q1, by omega⟩, q2⟩
  rcases Nat.lt_or_ge 0 (addS a b).length with hh | hh
  · omega
  · have e := nil_of_len (l := addS a b) (by omega)
    rw [e] at q2
    simp only [dims] at q2
    omega

theorem asc_signed {M : List Constituent} {y : Int} (hy : -1 ≤ y) (h : ascP y M) : ∀ c ∈ M, signed c := fun c hc => (asc_okC hy h c hc).2.2.2.2.1

/-- The plain law. -/
theorem lawSums (p0_Prime : Int) (p0_Parts : List A5u8) (p1_Prime : Int) (p1_Parts : List A5u8) (p2_Prime : Int) (p2_Parts : List A5u8) (h0 : okI .u8 p0_Prime) (h0' : okL ok_A5u8 p0_Parts) (h1' : okL ok_A5u8 p1_Parts) (h2' : okL ok_A5u8 p2_Parts) :
    Fquadformlaw26_SymbolSums 2500 p0_Prime p0_Parts p1_Prime p1_Parts p2_Prime p2_Parts = some true := by
  unfold Fquadformlaw26_SymbolSums Fquadformlaw26_SymbolSums.b
  by_cases l1 : (p0_Parts.length : Int) > 20
  · rw [if_pos l1]; rfl
  rw [if_neg l1]
  by_cases l2 : (p1_Parts.length : Int) > 20
  · rw [if_pos l2]; rfl
  rw [if_neg l2]
  by_cases l3 : (p2_Parts.length : Int) > 20
  · rw [if_pos l3]; rfl
  rw [if_neg l3]
  obtain ⟨q, hq, loc3⟩ := local_val8 2500 3 (by decide) (by decide) p0_Prime h0
  obtain ⟨q', hq', loc2⟩ := local_val8 2500 2 (by decide) (by decide) p0_Prime h0
  obtain ⟨a, ea, sa, da⟩ := loc3 p0_Parts (by omega) h0'.2 (by omega)
  obtain ⟨b, eb, sb, db⟩ := loc3 p1_Parts (by omega) h1'.2 (by omega)
  obtain ⟨c, ec, sc, dc⟩ := loc2 p2_Parts (by omega) h2'.2 (by omega)
  have hqq : q' = q := by
    obtain ⟨r, hr, _⟩ := oddPrime_val8 2500 p0_Prime (u8sym h0).1
    have e1 := ea; have e2 := ec
    unfold Fquadformscene_Symbol__Local Fquadformscene_Symbol__Local.b at e1 e2
    rw [hr, Option.bind_some] at e1 e2
    have g1 : q = r := by
      cases hl : Fquadformscene_Symbol__list 2500 p0_Prime p0_Parts 3 false with
      | none => rw [hl] at e1; simp at e1
      | some o => rw [hl] at e1; simp at e1; exact e1.1.symm
    have g2 : q' = r := by
      cases hl : Fquadformscene_Symbol__list 2500 p0_Prime p2_Parts 2 false with
      | none => rw [hl] at e2; simp at e2
      | some o => rw [hl] at e2; simp at e2; exact e2.1.symm
    rw [g1, g2]
  subst hqq
  obtain ⟨sab, dab⟩ := sym_add sa sb (by omega)
  obtain ⟨sba, dba⟩ := sym_add sb sa (by omega)
  obtain ⟨sbc, dbc⟩ := sym_add sb sc (by omega)
  obtain ⟨sabc, _⟩ := sym_add sab sc (by omega)
  obtain ⟨sabc', _⟩ := sym_add sa sbc (by omega)
  rw [ea, Option.bind_some, eb, Option.bind_some, ec, Option.bind_some]
  dsimp only
  rw [sumP_val 2500 (by decide), Option.bind_some, if_pos ⟨sa, sb, rfl, sab⟩, sumP_val 2500 (by decide), Option.bind_some, if_pos ⟨sb, sa, rfl, sba⟩, sumP_val 2500 (by decide), Option.bind_some, if_pos ⟨sb, sc, rfl, sbc⟩]
  dsimp only
  rw [sumP_val 2500 (by decide), Option.bind_some, if_pos ⟨sab, sc, rfl, sabc⟩, sumP_val 2500 (by decide), Option.bind_some, if_pos ⟨sa, sbc, rfl, sabc'⟩, exP_val 2500 (by decide) _ _ sa, Option.bind_some, exP_val 2500 (by decide) _ _ sb, Option.bind_some, exP_val 2500 (by decide) _ _ sab, Option.bind_some]
  dsimp only
  rw [if_pos rfl, if_pos rfl, if_pos rfl, if_pos rfl, if_pos rfl, if_pos rfl, if_pos rfl, if_pos rfl]
  have lab := sab.2.2.1; have labc := sabc.2.2.1
  rw [addS_comm _ b a (Nat.le_refl _), same_sym 2500 _ _ (by omega) (by omega), Option.bind_some, if_pos rfl, ← addS_assoc _ a b c (Nat.le_refl _), same_sym 2500 _ _ (by omega) (by omega), Option.bind_some, if_pos rfl]
  obtain ⟨m, hm⟩ := fsum_add q' _ a b (Nat.le_refl _) (asc_signed (by omega) sa.2.2.2.1) (asc_signed (by omega) sb.2.2.2.1)
  have w : IntKind.wrap .i64 (fsum q' a % 8 + fsum q' b % 8) = fsum q' a % 8 + fsum q' b % 8 := wrap_id (by omega) (by omega)
  rw [w, Int.tmod_eq_emod_of_nonneg (by omega), if_pos (by omega)]
  rfl

end Go.Cn
