/- The law of canonical symbols. -/
import Derived.Test.YtgbijhccgmmkgabGreatDoorTf12m0
import Derived.Test.YtgbijhccgmmkgabGreatDoorTx2a
import Derived.Test.YtgbijhccgmmkgabGreatDoorSo1
import Derived.Test.YtgbijhccgmmkgabGreatDoorSn1
set_option linter.unusedVariables false
noncomputable section
open Classical
namespace Go.Cn

open F57 in
theorem canP_loop (k : Nat) (hk : 1100 ≤ k) (x : Int) : ∀ (i j : Nat) (L : List Constituent), i < j → fusedS L → i < L.length → l0 k j x 2 L (i : Int) = some (x, 2, cnF i L) := by
  intro i
  induction i with
  | zero =>
    intro j L hj hL hi
    obtain ⟨j, rfl⟩ : ∃ i, j = i + 1 := ⟨j - 1, by omega⟩
    show l0_b k (l0 k j) _ _ _ _ = _
    unfold l0_b; rw [if_neg (by omega)]; rfl
  | succ i ih =>
    intro j L hj hL hi
    obtain ⟨j, rfl⟩ : ∃ i, j = i + 1 := ⟨j - 1, by omega⟩
    have h8 := ordR_len hL.1
    show l0_b k (l0 k j) _ _ _ _ = _
    unfold l0_b
    rw [if_pos (by omega), elt_ati (by omega) (by omega), Option.bind_some, wrap_pred (by omega)]
    by_cases h1 : (ati L ((i + 1 : Nat) : Int)).Sign = -1
    · rw [if_pos h1, linkedP_val k 2 L _ (by omega) (by omega) (ord_exp hL.1) (by omega) (by omega), Option.bind_some]
      by_cases h2 : lkS L ((i + 1 : Nat) : Int) = true
      · have hw : wkS 2 L ((i + 1 : Nat) : Int) = (2, stS L ((i + 1 : Nat) : Int), true) := by
          unfold wkS; rw [if_pos ⟨⟨rfl, hL⟩, by omega, by omega, h2⟩]
        rw [if_pos h2, walkP_val k hk 2 L _ (by omega), Option.bind_some, hw]
        dsimp only
        rw [ih j (stS L ((i + 1 : Nat) : Int)) (by omega) (fused_st hL (by omega) (by omega)) (by rw [stS_len]; omega)]
        show _ = some (x, (2 : Int), if _ then _ else _)
        rw [if_pos ⟨h1, h2⟩]
      · rw [if_neg h2, ih j L (by omega) hL (by omega)]
        show _ = some (x, (2 : Int), if _ then _ else _)
        rw [if_neg (fun h => h2 h.2)]
    · rw [if_neg h1, ih j L (by omega) hL (by omega)]
      show _ = some (x, (2 : Int), if _ then _ else _)
      rw [if_neg (fun h => h1 h.1)]

theorem canP_val (k : Nat) (hk : 1100 ≤ k) (p : Int) (L : List Constituent) (hL : L.length ≤ 900) : F57 k p L = some (if p = 2 ∧ raw2 L then (p, canS L, true) else (0, [], false)) := by
  unfold F57 F57.b
  rw [fuseP_val k hk p L hL, Option.bind_some]
  by_cases h : p = 2 ∧ raw2 L
  case neg => rw [if_neg h, if_neg (by simp), if_neg h]
  have h8 := ordR_len h.2.1
  have hf := fused_fu h.2
  have hp := h.1
  subst hp
  rw [if_pos h, if_pos rfl, if_pos h]
  dsimp only
  obtain ⟨n, hn⟩ : ∃ n, L.length = n + 1 := ⟨L.length - 1, by omega⟩
  have hw : IntKind.wrap .i64 (((fuS L).length : Int) - 1) = (n : Int) := by rw [fuS_len, hn]; exact wrap_pred (by omega)
  rw [hw, canP_loop k hk 0 n k (fuS L) (by omega) hf (by rw [fuS_len]; omega)]
  show F57.c0 k 0 2 _ = _
  unfold F57.c0 canS
  rw [hn]
  rfl

/-- The plain law. -/
theorem lawCanonical (p0Pr : Int) (p0L : List Constituent) (p1Pr : Int) (p1P : List A5u8) (p2 p3 p4 : Int) (p5 : Bool) (h1 : okI .u8 p1Pr) (h1' : okL ok_A5u8 p1P) (h2 : okI .u8 p2) :
    F0 2000 p0Pr p0L p1Pr p1P p2 p3 p4 p5 = some true := by
  unfold F0 F0.b F7 F7.b F9 F9.b
  rw [Option.bind_some]
  by_cases l1 : (p0L.length : Int) > 20
  · rw [if_pos (by simpa using l1)]; rfl
  rw [if_neg (by simpa using l1), Option.bind_some]
  by_cases l2 : (p1P.length : Int) > 20
  · rw [if_pos (by simpa using l2)]; rfl
  rw [if_neg (by simpa using l2)]
  obtain ⟨q, o, e, ho⟩ := some_some 2000 (by decide) p0Pr p0L p1Pr p1P p2 p3 p4 p5 (by omega) h1 (by omega) h1'.2 h2
  rw [e, Option.bind_some]
  dsimp only
  have hl : (if q = 2 ∧ raw2 o then (q, canS o, true) else ((0 : Int), [], false)).2.1.length ≤ 900 := by
    split
    · show (canS o).length ≤ 900; rw [canS_len]; omega
    · simp
  rw [canP_val 2000 (by decide) q o (by omega), Option.bind_some, can_val 2000 (by decide) q o (by omega), Option.bind_some, if_pos rfl, same_sym 2000 _ _ (by omega) (by omega), Option.bind_some, if_pos rfl]
  rfl

end Go.Cn
