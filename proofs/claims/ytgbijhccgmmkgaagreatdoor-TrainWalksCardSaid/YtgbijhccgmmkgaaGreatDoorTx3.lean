/- The law of walks and back. -/
import Derived.Test.YtgbijhccgmmkgaaGreatDoorTf11m28
import Derived.Test.YtgbijhccgmmkgaaGreatDoorTf11m3
import Derived.Test.YtgbijhccgmmkgaaGreatDoorTx2
import Derived.Test.YtgbijhccgmmkgaaGreatDoorTw2
set_option linter.unusedVariables false
noncomputable section
open Classical
namespace Go.Cn

open F0 in
theorem ws_loop (k : Nat) (v0 : Int) (L : List Constituent) (i : Nat) (hf : fusedS L) (h1 : 1 ≤ i) (h2 : i < L.length) : ∀ (r : List Constituent) (j n : Nat), r.length < j → (stS L (i : Int)).drop n = r → n ≤ (stS L (i : Int)).length →
    l0 k j v0 L (if n = i then -1 else 1) (stS L (i : Int)) ((stS L (i : Int)).length : Int) (n : Int) = some (.x0 1) := by
  have h8 := ordR_len hf.1
  have hl := stS_len L (i : Int)
  intro r
  induction r with
  | nil =>
    intro j n hj hr hn
    obtain ⟨j, rfl⟩ : ∃ i, j = i + 1 := ⟨j - 1, by simp at hj; omega⟩
    have := elt_end hr hn
    show l0_b k (l0 k j) _ _ _ _ _ _ = _
    unfold l0_b; rw [if_neg (by omega), if_neg (by omega)]
  | cons b r ih =>
    intro j n hj hr hn
    obtain ⟨j, rfl⟩ : ∃ i, j = i + 1 := ⟨j - 1, by simp at hj; omega⟩
    obtain ⟨g1, g2, g3, g4⟩ := elt_drop hr
    have hb := drop_ati hr
    simp only [List.length_cons] at hj
    have key := ih j (n + 1) (by omega) g3 (by omega)
    have hs := shp_st (L := L) (i := (i : Int)) (by omega) (by omega)
    have hsg : signed (ati L (n : Int)) := (ascR_mem (by omega) hf.1.1 _ (ati_mem (by omega) (by omega))).2.2.1
    show l0_b k (l0 k j) _ _ _ _ _ _ = _
    unfold l0_b
    rw [if_pos (by omega), g2, Option.bind_some, elt_ati (by omega) (by omega), Option.bind_some, hb, hs.exp _ (by omega), if_pos rfl, hs.dim _ (by omega), if_pos rfl, hs.odd _ (by omega), if_pos rfl, wrap_succ (by omega)]
    have hv : IntKind.wrap .i64 ((if n = i then -1 else 1) * IntKind.wrap .i64 ((ati (stS L (i : Int)) (n : Int)).Sign * (ati L (n : Int)).Sign)) = if n + 1 = i then -1 else 1 := by
      rw [ati_st (by omega) (by omega) (by omega)]
      dsimp only
      unfold signed at hsg
      by_cases c1 : n = i
      · subst c1
        rw [if_pos rfl, if_pos (.inl rfl), if_neg (by omega), ng_sign hsg]
        rcases hsg with e | e <;> rw [e] <;> decide
      · rw [if_neg c1]
        by_cases c2 : n + 1 = i
        · rw [if_pos (.inr (by omega)), if_pos c2, ng_sign hsg]
          rcases hsg with e | e <;> rw [e] <;> decide
        · rw [if_neg (by omega), if_neg c2]
          rcases hsg with e | e <;> rw [e] <;> decide
    rw [hv]
    exact key

/-- The plain law. -/
theorem lawWalks (p0Pr : Int) (p0P : List A5u8) (p1 : Int) (h : okL ok_A5u8 p0P) (h1 : okI .u8 p1) :
    F0 2000 p0Pr p0P p1 = some true := by
  unfold F0 F0.b F9 F9.b
  rw [Option.bind_some]
  by_cases l2 : (p0P.length : Int) > 20
  · rw [if_pos (by simpa using l2)]; rfl
  rw [if_neg (by simpa using l2)]
  obtain ⟨r, hraw, _, e⟩ := fused_made 2000 (by decide) p0Pr p0P (by omega) h.2
  have hf := fused_fu hraw
  have h8 := ordR_len hf.1
  obtain ⟨L, hL⟩ : ∃ L, L = fuS r := ⟨_, rfl⟩
  rw [← hL] at hf h8 e
  have hu := u8sym h1
  have hw : Int.tmod (IntKind.wrap .i64 p1) 8 = ((p1.toNat % 8 : Nat) : Int) := by
    rw [wrap_id (by omega) (by omega), Int.tmod_eq_emod_of_nonneg hu.1]; omega
  obtain ⟨i, hi⟩ : ∃ i, i = p1.toNat % 8 := ⟨_, rfl⟩
  rw [e, Option.bind_some, hw, ← hi]
  dsimp only
  rw [walkP_val 2000 (by decide) 2 L i (by omega), Option.bind_some]
  by_cases hc : ((2 : Int) = 2 ∧ fusedS L) ∧ 1 ≤ (i : Int) ∧ (i : Int) < (L.length : Int) ∧ lkS L (i : Int) = true
  case neg =>
    have : wkS 2 L (i : Int) = (0, [], false) := by unfold wkS; rw [if_neg hc]
    rw [this]
    rfl
  have hwk : wkS 2 L (i : Int) = (2, stS L (i : Int), true) := by unfold wkS; rw [if_pos hc]
  obtain ⟨_, c1, c2, c3⟩ := hc
  have hf' := fused_st hf c1 c2
  have hl := stS_len L (i : Int)
  have hwk2 : wkS 2 (stS L (i : Int)) (i : Int) = (2, L, true) := by
    unfold wkS
    rw [if_pos ⟨⟨rfl, hf'⟩, c1, by omega, by rw [lk_st hf c1 c2 c1]; exact c3⟩, st_st hf c1 c2]
  have o1 : oddS 2 L = (Int.tmod (odF 0 L) 8, true) := by unfold oddS; rw [if_pos ⟨rfl, .inr hf⟩]
  have o2 : oddS 2 (stS L (i : Int)) = (Int.tmod (odF 0 L) 8, true) := by
    unfold oddS
    obtain ⟨n, rfl⟩ : ∃ n, i = n + 1 := ⟨i - 1, by omega⟩
    rw [if_pos ⟨rfl, .inr hf'⟩, odd_st hf (by omega) c3]
  rw [hwk]
  dsimp only
  rw [if_pos rfl, walkP_val 2000 (by decide) 2 _ i (by omega), Option.bind_some, hwk2, odP_val 2000 (by decide) 2 L (by omega), Option.bind_some, o1, odP_val 2000 (by decide) 2 _ (by omega), Option.bind_some, o2]
  dsimp only
  rw [if_pos rfl, if_pos rfl, if_pos rfl, if_pos rfl, same_sym 2000 _ _ (by omega) (by omega), Option.bind_some, if_pos rfl, if_pos (by omega), fusedP_val 2000 (by decide) 2 _ (by omega), Option.bind_some, if_pos (decide_eq_true ⟨rfl, hf'⟩)]
  have key := ws_loop 2000 2 L i hf (by omega) (by omega) (stS L (i : Int)) 2000 0 (by omega) rfl (by omega)
  have e0 : ((0 : Nat) : Int) = 0 := rfl
  rw [e0, if_neg (by omega)] at key
  rw [key]
  rfl

end Go.Cn
