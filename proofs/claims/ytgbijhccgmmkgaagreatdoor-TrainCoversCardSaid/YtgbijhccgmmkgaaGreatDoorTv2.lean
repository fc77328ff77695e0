/- The law that trains cover. -/
import Derived.Test.YtgbijhccgmmkgaaGreatDoorTf11m27
import Derived.Test.YtgbijhccgmmkgaaGreatDoorTf11m3
import Derived.Test.YtgbijhccgmmkgaaGreatDoorTp1
import Derived.Test.YtgbijhccgmmkgaaGreatDoorTv1
set_option linter.unusedVariables false
noncomputable section
open Classical
namespace Go.Cn

open F0 in
theorem cv_in (k : Nat) (v0 : Int) (v1 : List Constituent) (v2 : Bool) (v3 : List (List Int)) (v4 : Bool) (v6 : List (List Int)) (v7 v8 : Int) (a m : Nat) (hm : a + m ≤ 1000) : ∀ (q j n : Nat), n + q = m → q < j →
    l1 k j v0 v1 v2 v3 v4 ((a + n : Nat) : Int) v6 v7 v8 (iv a m) (m : Int) (n : Int) = some (.x0 v0 v1 v2 v3 v4 ((a + m : Nat) : Int) v6 v7 v8) := by
  intro q
  induction q with
  | zero =>
    intro j n hn hj
    obtain ⟨j, rfl⟩ : ∃ i, j = i + 1 := ⟨j - 1, by omega⟩
    show l1_b k (l1 k j) _ _ _ _ _ _ _ _ _ _ _ _ = _
    unfold l1_b; rw [if_neg (by omega), show n = m by omega]
  | succ q ih =>
    intro j n hn hj
    obtain ⟨j, rfl⟩ : ∃ i, j = i + 1 := ⟨j - 1, by omega⟩
    show l1_b k (l1 k j) _ _ _ _ _ _ _ _ _ _ _ _ = _
    unfold l1_b
    rw [if_pos (by omega), iv_elt (by omega), Option.bind_some, if_pos rfl, wrap_succ (by omega), wrap_succ (by omega)]
    exact ih j (n + 1) (by omega) (by omega)

open F0 in
theorem cv_out (k : Nat) (hk : 1001 < k) (v0 : Int) (v1 : List Constituent) (v2 : Bool) (v3 : List (List Int)) (v4 : Bool) (P : List (List Int)) (N : Nat) (hN : N ≤ 900) (hP : P.length ≤ 1000) : ∀ (r : List (List Int)) (j n lo : Nat), r.length < j → P.drop n = r → n ≤ P.length → Cov lo r N → lo ≤ N →
    l0 k j v0 v1 v2 v3 v4 (lo : Int) P (P.length : Int) (n : Int) = some (.x0 v0 v1 v2 v3 v4 (N : Int)) := by
  intro r
  induction r with
  | nil =>
    intro j n lo hj hr hn hc hlo
    obtain ⟨j, rfl⟩ : ∃ i, j = i + 1 := ⟨j - 1, by simp at hj; omega⟩
    have := elt_end hr hn
    obtain rfl : lo = N := hc
    show l0_b k (l0 k j) _ _ _ _ _ _ _ _ _ = _
    unfold l0_b; rw [if_neg (by omega)]
  | cons b r ih =>
    intro j n lo hj hr hn hc hlo
    obtain ⟨j, rfl⟩ : ∃ i, j = i + 1 := ⟨j - 1, by simp at hj; omega⟩
    obtain ⟨g1, g2, g3, g4⟩ := elt_drop hr
    simp only [List.length_cons] at hj
    obtain ⟨m, hb, hc⟩ := hc
    have hle : lo + m + 1 ≤ N := cov_le hc
    show l0_b k (l0 k j) _ _ _ _ _ _ _ _ _ = _
    unfold l0_b
    rw [if_pos (by omega), g2, Option.bind_some, hb, iv_len]
    have := cv_in k v0 v1 v2 v3 v4 P (P.length : Int) (n : Int) lo (m + 1) (by omega) (m + 1) k 0 (by omega) (by omega)
    have e0 : ((0 : Nat) : Int) = 0 := rfl
    rw [e0, Nat.add_zero] at this
    rw [this]
    show F0.c1 k (l0 k j) _ _ _ _ _ _ _ _ _ = _
    unfold F0.c1
    rw [wrap_succ (by omega)]
    exact ih j (n + 1) (lo + (m + 1)) (by omega) g3 (by omega) hc (by omega)

open F0 in
theorem pt_in (k : Nat) (v0 : Int) (L : List Constituent) (v2 v3 : Bool) (v4 : Int) (P : List (List Int)) (v8 v9 : Int) (s a m : Nat) (hs : s + m ≤ 1000) (hL : L.length ≤ 900) (hE : expOk L) (ha : a + m ≤ L.length) (hmem : ∀ j, a ≤ j → j < a + m → memS L j = true) (hjoi : ∀ j, a < j → j < a + m → joiS L j = true) : ∀ (q j n : Nat), n + q = m → q < j →
    l3 k j v0 L v2 v3 v4 ((s + n : Nat) : Int) (iv a m) P v8 v9 (iv a m) (m : Int) (n : Int) = some (.x0 v0 L v2 v3 v4 ((s + m : Nat) : Int) P v8 v9) := by
  intro q
  induction q with
  | zero =>
    intro j n hn hj
    obtain ⟨j, rfl⟩ : ∃ i, j = i + 1 := ⟨j - 1, by omega⟩
    show l3_b k (l3 k j) _ _ _ _ _ _ _ _ _ _ _ _ _ = _
    unfold l3_b; rw [if_neg (by omega), show n = m by omega]
  | succ q ih =>
    intro j n hn hj
    obtain ⟨j, rfl⟩ : ∃ i, j = i + 1 := ⟨j - 1, by omega⟩
    have key := ih j (n + 1) (by omega) (by omega)
    have ho : (ati L ((a + n : Nat) : Int)).Odd = true := hmem (a + n) (by omega) (by omega)
    show l3_b k (l3 k j) _ _ _ _ _ _ _ _ _ _ _ _ _ = _
    unfold l3_b
    rw [if_pos (by omega), iv_elt (by omega), Option.bind_some, if_neg (by omega), if_neg (by omega), elt_ati (by omega) (by omega), Option.bind_some, if_pos ho, wrap_succ (by omega), wrap_succ (by omega)]
    by_cases h0 : (n : Int) > 0
    · obtain ⟨n, rfl⟩ : ∃ i, n = i + 1 := ⟨n - 1, by omega⟩
      have hj' := hjoi (a + (n + 1)) (by omega) (by omega)
      unfold joiS at hj'
      have hj2 := of_decide_eq_true hj'
      have e1 := hE (a + (n + 1)) (by omega)
      have e2 := hE (a + n) (by omega)
      have ew : IntKind.wrap .i64 ((ati L ((a + (n + 1) : Nat) : Int)).Exp - 1) = (ati L ((a + (n + 1) : Nat) : Int)).Exp - 1 := wrap_id (by omega) (by omega)
      rw [show a + (n + 1) - 1 = a + n by omega, ew] at hj2
      rw [if_pos h0, wrap_pred (by omega), iv_elt (by omega), Option.bind_some, wrap_succ (by omega), if_pos (by omega)]
      rw [show ((a + (n + 1) : Nat) : Int) = ((a + n + 1 : Nat) : Int) by omega, wrap_pred (by omega), elt_ati (by omega) (by omega), Option.bind_some]
      have ew2 : IntKind.wrap .i64 ((ati L ((a + n : Nat) : Int)).Exp + 1) = (ati L ((a + n : Nat) : Int)).Exp + 1 := wrap_id (by omega) (by omega)
      rw [ew2, if_pos (by rw [hj2, show a + (n + 1) = a + n + 1 by omega]; omega)]
      exact key
    · rw [if_neg h0]; exact key

open F0 in
theorem pt_out (k : Nat) (hk : 1001 < k) (v0 : Int) (L : List Constituent) (v2 v3 : Bool) (v4 : Int) (P : List (List Int)) (hP : P.length ≤ 1000) (hL : L.length ≤ 900) (hE : expOk L)
    (hg : ∀ p ∈ P, ∃ a m, p = iv a m ∧ a + m ≤ L.length ∧ (∀ j, a ≤ j → j < a + m → memS L j = true) ∧ (∀ j, a < j → j < a + m → joiS L j = true)) : ∀ (r : List (List Int)) (j n s : Nat), r.length < j → P.drop n = r → n ≤ P.length → s + lens r ≤ 1000 →
    l2 k j v0 L v2 v3 v4 (s : Int) P (P.length : Int) (n : Int) = some (.x0 v0 L v2 v3 v4 ((s + lens r : Nat) : Int)) := by
  intro r
  induction r with
  | nil =>
    intro j n s hj hr hn hs
    obtain ⟨j, rfl⟩ : ∃ i, j = i + 1 := ⟨j - 1, by simp at hj; omega⟩
    have := elt_end hr hn
    show l2_b k (l2 k j) _ _ _ _ _ _ _ _ _ = _
    unfold l2_b; rw [if_neg (by omega)]; rfl
  | cons b r ih =>
    intro j n s hj hr hn hs
    obtain ⟨j, rfl⟩ : ∃ i, j = i + 1 := ⟨j - 1, by simp at hj; omega⟩
    obtain ⟨g1, g2, g3, g4⟩ := elt_drop hr
    simp only [List.length_cons] at hj
    obtain ⟨a, m, rfl, ha, hm, hjo⟩ := hg b (List.mem_of_getElem? g4)
    simp only [lens, iv_len] at hs ⊢
    show l2_b k (l2 k j) _ _ _ _ _ _ _ _ _ = _
    unfold l2_b
    rw [if_pos (by omega), g2, Option.bind_some, iv_len]
    have := pt_in k v0 L v2 v3 v4 P (P.length : Int) (n : Int) s a m (by omega) hL hE ha hm hjo m k 0 (by omega) (by omega)
    have e0 : ((0 : Nat) : Int) = 0 := rfl
    rw [e0, Nat.add_zero] at this
    rw [this]
    show F0.c3 k (l2 k j) _ _ _ _ _ _ _ _ _ = _
    unfold F0.c3
    rw [wrap_succ (by omega), ih j (n + 1) (s + m) (by omega) g3 (by omega) (by omega), Nat.add_assoc]

open F0 in
theorem od_loop (k : Nat) (v0 : Int) (L : List Constituent) (v2 v3 : Bool) (v4 : Int) (hL : L.length ≤ 900) : ∀ (r : List Constituent) (j n : Nat), r.length < j → L.drop n = r → n ≤ L.length →
    l4 k j v0 L v2 v3 v4 (((cnt (memS L) L.length - cnt (memS L) n : Nat) : Int)) L (L.length : Int) (n : Int) = some (v0, L, v2, v3, v4, 0) := by
  intro r
  induction r with
  | nil =>
    intro j n hj hr hn
    obtain ⟨j, rfl⟩ : ∃ i, j = i + 1 := ⟨j - 1, by simp at hj; omega⟩
    have := elt_end hr hn
    show l4_b k (l4 k j) _ _ _ _ _ _ _ _ _ = _
    unfold l4_b; rw [if_neg (by omega), this, Nat.sub_self]; rfl
  | cons b r ih =>
    intro j n hj hr hn
    obtain ⟨j, rfl⟩ : ∃ i, j = i + 1 := ⟨j - 1, by simp at hj; omega⟩
    obtain ⟨g1, g2, g3, g4⟩ := elt_drop hr
    simp only [List.length_cons] at hj
    have h1 := cnt_mono (memS L) (n := n + 1) (m := L.length) (by omega)
    have h2 := cnt_le (memS L) L.length
    have key := ih j (n + 1) (by omega) g3 (by omega)
    have hc : cnt (memS L) (n + 1) = cnt (memS L) n + (if memS L n = true then 1 else 0) := rfl
    show l4_b k (l4 k j) _ _ _ _ _ _ _ _ _ = _
    unfold l4_b
    rw [if_pos (by omega), g2, Option.bind_some, drop_ati hr]
    by_cases hm : memS L n = true
    · have hm' : (ati L (n : Int)).Odd = true := hm
      rw [if_pos hm] at hc
      rw [if_pos hm', wrap_succ (by omega), wrap_id (by omega) (by omega), show ((cnt (memS L) L.length - cnt (memS L) n : Nat) : Int) - 1 = ((cnt (memS L) L.length - cnt (memS L) (n + 1) : Nat) : Int) by omega]
      exact key
    · have hm' : ¬ (ati L (n : Int)).Odd = true := hm
      rw [if_neg hm] at hc
      rw [if_neg hm', wrap_succ (by omega), show ((cnt (memS L) L.length - cnt (memS L) n : Nat) : Int) = ((cnt (memS L) L.length - cnt (memS L) (n + 1) : Nat) : Int) by omega]
      exact key

theorem parts_good {L : List Constituent} : ∀ p ∈ partsS L, ∃ a m, p = iv a m ∧ a + m ≤ L.length ∧ (∀ j, a ≤ j → j < a + m → memS L j = true) ∧ (∀ j, a < j → j < a + m → joiS L j = true) := by
  intro p hp
  obtain ⟨a, m, h1, h2, h3⟩ := runs_good p hp
  have hin := ((parts_ok L).2 p hp).2.1
  have hmm := runs_mems p hp
  refine ⟨a, m + 1, h1, ?_, fun j x y => ?_, fun j x y => h2 j x (by omega)⟩
  · have := hin ((a + m : Nat) : Int) (by rw [h1, mem_iv]; omega); omega
  · have := hmm (j : Int) (by rw [h1, mem_iv]; omega)
    rw [Int.toNat_natCast] at this; exact this

/-- The plain law. -/
theorem lawCovers (p0_Prime : Int) (p0_Parts : List A5u8) (h : okL ok_A5u8 p0_Parts) :
    F0 2000 p0_Prime p0_Parts = some true := by
  unfold F0 F0.b F9 F9.b
  rw [Option.bind_some]
  by_cases l2 : (p0_Parts.length : Int) > 20
  · rw [if_pos (by simpa using l2)]; rfl
  rw [if_neg (by simpa using l2)]
  obtain ⟨r, hr, hraw, hd⟩ := raw_val 2000 8 (by decide) (by decide) p0_Prime p0_Parts (by omega) h.2 (by omega)
  have h8 := ordR_len hraw.1
  rw [hr, Option.bind_some]
  dsimp only
  have hpk : ∀ P, pickS 2 r P = (P, true) := fun P => by unfold pickS; rw [if_pos ⟨rfl, .inl hraw⟩]
  rw [trainP_val 2000 (by decide) 2 r (by omega), Option.bind_some, compP_val 2000 (by decide) 2 r (by omega), Option.bind_some, hpk, hpk]
  dsimp only
  obtain ⟨a1, a2⟩ := parts_ok r
  obtain ⟨b1, b2⟩ := runs_ok (fun _ => true) (fun i => lkS r (i : Int)) r.length
  have e0 : ((0 : Nat) : Int) = 0 := rfl
  have k1 := cv_out 2000 (by decide) 2 r true (partsS r) true (trS r) r.length (by omega) (by show (runs _ _ _).length ≤ 1000; omega) (trS r) 2000 0 0 (by show (runs _ _ _).length < 2000; omega) rfl (by omega) (runs_cov _ _) (by omega)
  rw [e0] at k1
  rw [k1]
  show F0.c0 2000 2 r true (partsS r) true (r.length : Int) = _
  unfold F0.c0
  have hl : lens (partsS r) = cnt (memS r) r.length := runs_lens _ _ _
  have hle := cnt_le (memS r) r.length
  have k2 := pt_out 2000 (by decide) 2 r true true (r.length : Int) (partsS r) (by omega) (by omega) (ord_exp hraw.1) parts_good (partsS r) 2000 0 0 (by omega) rfl (by omega) (by omega)
  rw [e0] at k2
  rw [k2]
  show F0.c2 2000 2 r true true (r.length : Int) ((0 + lens (partsS r) : Nat) : Int) = _
  unfold F0.c2
  have k3 := od_loop 2000 2 r true true (r.length : Int) (by omega) r 2000 0 (by omega) rfl (by omega)
  rw [e0, show cnt (memS r) 0 = 0 from rfl, Nat.sub_zero] at k3
  rw [hl, Nat.zero_add, k3]
  show F0.c4 2000 2 r true true (r.length : Int) 0 = _
  unfold F0.c4
  rw [if_pos rfl, if_pos rfl, if_pos rfl, if_pos rfl]
  rfl

end Go.Cn
