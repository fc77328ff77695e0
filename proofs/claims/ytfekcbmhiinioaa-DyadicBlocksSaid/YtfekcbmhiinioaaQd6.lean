/- The plain law of DyadicBlocks. -/
import Derived.Test.YtfekcbmhiinioaaQd5
set_option linter.unusedVariables false
noncomputable section
namespace Go.Cn

open Fquadformref24_SameList in
theorem same_loop (k : Nat) (L : List Constituent) (hL : L.length < 1000) : ∀ (r : List Constituent) (j n : Nat), r.length < j → L.drop n = r → n ≤ L.length → Fquadformref24_SameList.l0 k j L L (L.length : Int) (n : Int) = some .x0 := by
  intro r
  induction r with
  | nil =>
    intro j n hj hr hn
    obtain ⟨j, rfl⟩ : ∃ i, j = i + 1 := ⟨j - 1, by simp at hj; omega⟩
    have hn' := drop_nil hr hn
    show l0_b k (l0 k j) _ _ _ _ = _
    unfold l0_b
    rw [if_neg (by omega)]
  | cons b r ih =>
    intro j n hj hr hn
    obtain ⟨j, rfl⟩ : ∃ i, j = i + 1 := ⟨j - 1, by simp at hj; omega⟩
    obtain ⟨g1, g2, g3, g4⟩ := drop_elt hr
    show l0_b k (l0 k j) _ _ _ _ = _
    unfold l0_b
    have hw2 : IntKind.wrap .i64 ((n : Int) + 1) = ((n + 1 : Nat) : Int) := by rw [wrap_id (by omega) (by omega)]; omega
    rw [if_pos (by omega), g2, Option.bind_some, Option.bind_some, if_pos rfl, hw2]
    exact ih j (n + 1) (by simp at hj; omega) g3 (by omega)

theorem same_self (k : Nat) (L : List Constituent) (hL : L.length < 1000) (hk : L.length < k) : Fquadformref24_SameList k L L = some true := by
  unfold Fquadformref24_SameList Fquadformref24_SameList.b
  rw [if_pos rfl]
  have := same_loop k L hL L k 0 hk rfl (by omega)
  have e0 : ((0 : Nat) : Int) = 0 := rfl
  rw [e0] at this
  rw [this]
  rfl


theorem mod_det (A B C : Int) : (A * C - B * B) % 8 = (A % 8 * (C % 8) - B % 8 * (B % 8)) % 8 := by
  rw [Int.sub_emod, Int.mul_emod A C, Int.mul_emod B B, ← Int.sub_emod]

theorem set_end (pre : List Constituent) (c d : Constituent) (hl : pre.length < 1000) : List.set (pre ++ [c]) (IntKind.wrap .i64 (((pre ++ [c]).length : Int) - 1)).toNat d = pre ++ [d] := set_last pre c d (by omega)
theorem set_end2 (pre : List Constituent) (c d e : Constituent) (hl : pre.length < 1000) :
    List.set (List.set (pre ++ [c]) (IntKind.wrap .i64 (((pre ++ [c]).length : Int) - 1)).toNat d) (IntKind.wrap .i64 (((pre ++ [c]).length : Int) - 1)).toNat e = pre ++ [e] := by
  rw [set_last pre c d (by omega)]
  have : (pre ++ [c]).length = (pre ++ [d]).length := by simp
  rw [this, set_last pre d e (by omega)]

open Fquadformlaw25_DyadicBlocks in
theorem endD (L : List Block) (w : Block) (hv : valid 0 L) (h1 : 1 ≤ L.length) (hl : L.length ≤ 5) (hw : w.Size = 2) (hbig : sizes L + 2 > 8) :
    (if (1 : Int) ≤ (IntKind.wrap .i64 (((L ++ [w]).length : Int) - 1)) ∧ (IntKind.wrap .i64 (((L ++ [w]).length : Int) - 1)) ≤ ((L ++ [w]).length : Int) then
      ((Fquadformlaw25_DyadicBlocks.l0 100 100 (L ++ [w]) false 2 ((IntKind.wrap .i64 (((L ++ [w]).length : Int) - 1))).toNat ((((IntKind.wrap .i64 (((L ++ [w]).length : Int) - 1))).toNat : Nat) : Int) 0).bind fun (v0, v1) => Fquadformlaw25_DyadicBlocks.c4 100 v0 v1) else none) = some true := by
  have hlen : (L ++ [w]).length = L.length + 1 := by simp
  have hwr : IntKind.wrap .i64 (((L ++ [w]).length : Int) - 1) = (L.length : Int) := by rw [wrap_id (by omega) (by omega)]; omega
  rw [hwr, if_pos (by omega), Int.toNat_natCast]
  have key := sum_loop 100 (L ++ [w]) false L (by omega) (valid_sizes hv) (take_self L w) L 100 0 2 (by omega) rfl (by omega) (by omega) (by omega)
  have e0 : ((0 : Nat) : Int) = 0 := rfl
  rw [e0] at key
  rw [key, Option.bind_some]
  show Fquadformlaw25_DyadicBlocks.c4 100 false (2 + sizes L) = some true
  unfold Fquadformlaw25_DyadicBlocks.c4
  rw [if_pos (by omega), if_neg (by decide)]
  rfl

open Fquadformlaw25_DyadicBlocks in
theorem c1D (pre : List Block) (l : Block) (hl : pre.length ≤ 4) (hg : GD pre l) (a b c : Int) (ha : 0 ≤ a ∧ a ≤ 255) (hb : 0 ≤ b ∧ b ≤ 255) (hc : 0 ≤ c ∧ c ≤ 255) :
    Fquadformlaw25_DyadicBlocks.c1 100 2 (pre ++ [l]) a b c = some true := by
  obtain ⟨L, hL⟩ : ∃ L, L = pre ++ [l] := ⟨_, rfl⟩
  have hv := hg.valid
  have hexp := stL_exp pre l
  have hlast : elt (pre ++ [l]) (IntKind.wrap .i64 (((pre ++ [l]).length : Int) - 1)) = some l := elt_last pre l (by omega)
  have hl0 : 0 ≤ l.Exp := valid_last pre 0 (by omega) hv
  have hx := hg.exp
  have wa : IntKind.wrap .i64 a = a := wrap_id (by omega) (by omega)
  have wb : IntKind.wrap .i64 b = b := wrap_id (by omega) (by omega)
  have wc : IntKind.wrap .i64 c = c := wrap_id (by omega) (by omega)
  have wa2 : IntKind.wrap .i64 (2 * a) = 2 * a := wrap_id (by omega) (by omega)
  have wb2 : IntKind.wrap .i64 (2 * b) = 2 * b := wrap_id (by omega) (by omega)
  have wb3 : IntKind.wrap .i64 (2 * b + 1) = 2 * b + 1 := wrap_id (by omega) (by omega)
  have wc2 : IntKind.wrap .i64 (2 * c) = 2 * c := wrap_id (by omega) (by omega)
  unfold Fquadformlaw25_DyadicBlocks.c1
  simp only [wa, wb, wc, wa2, wb2, wb3, wc2]
  obtain ⟨w, hw⟩ : ∃ w, w = Block.mk l.Exp 2 (2 * a) (2 * b + 1) (2 * c) := ⟨_, rfl⟩
  have hokw : okb w := by rw [hw]; exact .inr ⟨rfl, by show 2 * a % 2 = 0; omega, by show (2 * b + 1) % 2 = 1; omega, by show 2 * c % 2 = 0; omega⟩
  have hv' : valid 0 ((pre ++ [l]) ++ [w]) := valid_snocD (by rw [hw]; exact Int.le_refl _) (by rw [hw]; show l.Exp ≤ 60; omega) hokw hv
  have hsz : sizes ((pre ++ [l]) ++ [w]) = sizes (pre ++ [l]) + 2 := by rw [sizes_snoc, hw]
  have hlenL : (pre ++ [l]).length = pre.length + 1 := by simp
  have hlenW : ((pre ++ [l]) ++ [w]).length = pre.length + 2 := by simp
  rw [if_neg (by omega), prog_val 100 (by omega), Option.bind_some, hlast, Option.bind_some, if_pos (by omega)]
  rw [← hw, prog_L 100 (by omega)]
  by_cases hbig : sizes (pre ++ [l]) + 2 > 8
  · rw [if_neg (show ¬ meant 2 ((pre ++ [l]) ++ [w]) by unfold meant; omega), Option.bind_some]
    dsimp only
    have hend := endD (pre ++ [l]) w hv (by omega) (by omega) (by rw [hw]) hbig
    unfold Fquadformlaw25_DyadicBlocks.c2
    rw [if_neg (show ¬ (false = true) by decide)]
    by_cases hm : meant 2 (pre ++ [l])
    · rw [if_pos hm, if_pos rfl]; exact hend
    · rw [if_neg hm, if_neg (by simp)]; exact hend
  have m1 : meant 2 (pre ++ [l]) := ⟨rfl, by omega, by omega, hv, by omega⟩
  have m2 : meant 2 ((pre ++ [l]) ++ [w]) := ⟨rfl, by omega, by omega, hv', by omega⟩
  rw [if_pos m1, if_pos m2, Option.bind_some]
  dsimp only
  have hne : pre ++ [l] ≠ [] := by simp
  have hst := stL_snoc hne w
  have hwexp : w.Exp = (stL (pre ++ [l])).2.1.Exp := by rw [hexp, hw]
  have hstep : stepA (stL (pre ++ [l])).1 (stL (pre ++ [l])).2 w = ((stL (pre ++ [l])).1, upd (stL (pre ++ [l])).2 w) := if_pos hwexp
  rw [hstep] at hst
  obtain ⟨hgood, hlenr⟩ := runL_good hv (by omega)
  rw [runL_st hne] at hgood hlenr ⊢
  rw [runL_st (show (pre ++ [l]) ++ [w] ≠ [] by simp), hst]
  obtain ⟨Q, hQ⟩ : ∃ Q, Q = (stL (pre ++ [l])).1 := ⟨_, rfl⟩
  obtain ⟨p, hp⟩ : ∃ p, p = (stL (pre ++ [l])).2 := ⟨_, rfl⟩
  rw [← hQ, ← hp] at hgood hlenr ⊢
  have hgp : Gd p := hgood p (by simp)
  have hQl : Q.length ≤ 10 := by simp at hlenr; omega
  clear hst hstep hwexp hexp hv hv' hlast
  have emap : ∀ x : Constituent × Int, List.map (fun y : Constituent × Int => y.1) (Q ++ [x]) = Q.map (fun y => y.1) ++ [x.1] := by intro x; simp
  rw [emap, emap]
  have hQm : (Q.map (fun y : Constituent × Int => y.1)).length < 1000 := by simp; omega
  have hu : (upd p w).1 = ⟨p.1.Exp, p.1.Dim + 2, sg (p.2 * bdet w % 8), p.1.Odd, p.1.Oddity⟩ := by
    rw [hw]; simp [upd]
  have hbd : bdet w = (2 * a * (2 * c) - (2 * b + 1) * (2 * b + 1)) % 8 := by
    rw [hw]
    unfold bdet
    rw [if_neg (show ¬ ((2 : Int) = 1) by decide)]
    exact (mod_det _ _ _).symm
  have hdm := (det_mul hgp.det (bdet_odd hokw)).2
  have b1 : 2 * a * (2 * c) ≤ 510 * 510 := Int.mul_le_mul (by omega) (by omega) (by omega) (by omega)
  have b2 : 0 ≤ 2 * a * (2 * c) := Int.mul_nonneg (by omega) (by omega)
  have b3 : (2 * b + 1) * (2 * b + 1) ≤ 511 * 511 := Int.mul_le_mul (by omega) (by omega) (by omega) (by omega)
  have b4 : 0 ≤ (2 * b + 1) * (2 * b + 1) := Int.mul_nonneg (by omega) (by omega)
  have w1 : IntKind.wrap .i64 (2 * a * (2 * c)) = 2 * a * (2 * c) := wrap_id (by omega) (by omega)
  have w2 : IntKind.wrap .i64 ((2 * b + 1) * (2 * b + 1)) = (2 * b + 1) * (2 * b + 1) := wrap_id (by omega) (by omega)
  have w3 : IntKind.wrap .i64 (2 * a * (2 * c) - (2 * b + 1) * (2 * b + 1)) = 2 * a * (2 * c) - (2 * b + 1) * (2 * b + 1) := wrap_id (by omega) (by omega)
  have d0 := hgp.dim0; have d1 := hgp.dim1
  have wd : IntKind.wrap .i64 (p.1.Dim + 2 - 2) = p.1.Dim := by rw [wrap_id (by omega) (by omega)]; omega
  have hsg := hgp.sign
  unfold Fquadformlaw25_DyadicBlocks.c3
  rw [if_pos rfl, if_pos rfl, if_pos (by simp), if_neg (by simp; omega), elt_last _ _ (by omega), Option.bind_some, w1, w2, w3, mod8_eq, Option.bind_some, ← hbd, hu]
  dsimp only
  rw [wd]
  have hself : ∀ x : Constituent, x = p.1 → ((Fquadformref24_SameList 100 (Q.map (fun y => y.1) ++ [p.1]) (Q.map (fun y => y.1) ++ [x])).bind fun (a13 : Bool) => (if a13 = true then ((Fquadformlaw25_awake 100).bind fun (a14 : Bool) => (some (a14))) else (some (false)))) = some true := by
    rintro x rfl
    rw [same_self 100 _ (by simp; omega) (by simp; omega), Option.bind_some, if_pos rfl]
    rfl
  have hneg : IntKind.wrap .i64 (0 - sg (p.2 * bdet w % 8)) = -(sg (p.2 * bdet w % 8)) := by
    unfold sg; split <;> decide
  rw [hneg, hdm]
  by_cases h3 : bdet w = 3
  · rw [if_pos h3, if_pos (Or.inl h3), Int.neg_neg, ← hsg, set_end2 _ _ _ _ hQm]
    exact hself _ rfl
  rw [if_neg h3]
  by_cases h5 : bdet w = 5
  · rw [if_pos h5, if_pos (Or.inr h5), Int.neg_neg, ← hsg, set_end2 _ _ _ _ hQm]
    exact hself _ rfl
  rw [if_neg h5, if_neg (by omega), ← hsg, set_end _ _ _ hQm]
  exact hself _ rfl

/-- The plain law. -/
theorem lawB (p0 : List A5u8) (p1 p2 p3 : Int) (h0 : okL ok_A5u8 p0) (h1 : okI .u8 p1) (h2 : okI .u8 p2) (h3 : okI .u8 p3) : Fquadformlaw25_DyadicBlocks 100 p0 p1 p2 p3 = some true := by
  unfold Fquadformlaw25_DyadicBlocks Fquadformlaw25_DyadicBlocks.b
  rcases blocksD 100 p0 h0.1 h0.2 (by decide) with h | ⟨pre, l, h, hl, hg⟩
  · rw [h, Option.bind_some]
    rfl
  · rw [h, Option.bind_some]
    exact c1D pre l hl hg p1 p2 p3 (u8d h1) (u8d h2) (u8d h3)

end Go.Cn
