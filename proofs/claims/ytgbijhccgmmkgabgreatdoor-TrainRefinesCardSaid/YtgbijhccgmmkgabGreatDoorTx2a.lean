/- The fused symbol of a raw one is fused. -/
import Derived.Test.YtgbijhccgmmkgabGreatDoorTx1
set_option linter.unusedVariables false
noncomputable section
open Classical
namespace Go.Cn

/-! ### the fused symbol, place by place -/
theorem zeroS_at {j : Int} (hj : 0 ≤ j) : ∀ (p : List Int) (L : List ua0), inR L.length p → ati (zeroS L p) j = if j ∈ p then ⟨(ati L j).Exp, (ati L j).Dim, (ati L j).Sign, (ati L j).Odd, 0⟩ else ati L j := by
  intro p
  induction p with
  | nil => intro L _; rw [if_neg (by simp)]; rfl
  | cons a r ih =>
    intro L hin
    have ha := hin a (by simp)
    show ati (zeroS (setO L a 0) r) j = _
    rw [ih _ (by rw [ud3]; exact fun x hx => hin x (by simp [hx])), ati_setO ha.1 ha.2 hj]
    by_cases h : j = a
    · subst h
      rw [if_pos rfl, if_pos (show j ∈ j :: r by simp)]
      split <;> rfl
    · rw [if_neg h]
      by_cases hr : j ∈ r
      · rw [if_pos hr, if_pos (by simp [hr])]
      · rw [if_neg hr, if_neg (by simp [h, hr])]
/-- the oddity of place j -/
def foF (L0 : List ua0) (j o : Int) : List (List Int) → Int
  | [] => o
  | p :: r => foF L0 j (if j = p.getD 0 0 then totS L0 p else if j ∈ p then 0 else o) r
theorem fuseF_at (L0 : List ua0) {j : Int} (hj : 0 ≤ j) : ∀ (P : List (List Int)) (L : List ua0), (∀ p ∈ P, p ≠ [] ∧ inR L.length p) → ati (fuseF L0 L P) j = ⟨(ati L j).Exp, (ati L j).Dim, (ati L j).Sign, (ati L j).Odd, foF L0 j (ati L j).Oddity P⟩ := by
  intro P
  induction P with
  | nil => intro L _; rfl
  | cons p r ih =>
    intro L hin
    obtain ⟨h0, h1⟩ := hin p (by simp)
    obtain ⟨a, q, rfl⟩ := len_pos h0
    have ha := h1 a (by simp)
    show ati (fuseF L0 (setO (zeroS L (a :: q)) a (totS L0 (a :: q))) r) j = _
    rw [ih _ (by rw [ud3, uk2]; exact fun x hx => hin x (by simp [hx])), ati_setO ha.1 (by rw [uk2]; exact ha.2) hj, zeroS_at hj _ _ h1]
    show _ = (⟨_, _, _, _, foF L0 j (if j = a then _ else _) r⟩ : ua0)
    by_cases h : j = a
    · rw [if_pos h, if_pos h]
      split <;> rfl
    · rw [if_neg h, if_neg h]
      by_cases hp : j ∈ a :: q
      · rw [if_pos hp, if_pos hp]
      · rw [if_neg hp, if_neg hp]
theorem foF_out (L0 : List ua0) {j : Int} : ∀ (P : List (List Int)) (o : Int), (∀ p ∈ P, p.getD 0 0 ∈ p) → (∀ p ∈ P, j ∉ p) → foF L0 j o P = o
  | [], o, _, _ => rfl
  | p :: r, o, hh, h => by
    show foF L0 j _ r = o
    have h1 := h p (by simp)
    rw [if_neg (fun e => h1 (by rw [e]; exact hh p (by simp))), if_neg h1]
    exact foF_out L0 r o (fun q hq => hh q (by simp [hq])) (fun q hq => h q (by simp [hq]))
theorem foF_in (L0 : List ua0) {j : Int} {p : List Int} (hj : j ∈ p) : ∀ (P : List (List Int)) (o : Int), (∀ p ∈ P, p.getD 0 0 ∈ p) → (∀ q ∈ P, j ∈ q → q = p) → (o = (if j = p.getD 0 0 then totS L0 p else 0) ∨ p ∈ P) → foF L0 j o P = if j = p.getD 0 0 then totS L0 p else 0
  | [], o, _, _, h => by
    rcases h with h | h
    · exact h
    · simp at h
  | q :: r, o, hh, hu, h => by
    show foF L0 j _ r = _
    refine foF_in L0 hj r _ (fun q hq => hh q (by simp [hq])) (fun q hq => hu q (by simp [hq])) ?_
    by_cases hq : j ∈ q
    · have e := hu q (by simp) hq
      subst e
      exact .inl (by rw [if_pos hj])
    · rw [if_neg (fun e => hq (by rw [e]; exact hh q (by simp))), if_neg hq]
      rcases h with h | h
      · exact .inl h
      · rcases List.mem_cons.1 h with h | h
        · subst h; exact absurd hj hq
        · exact .inr h
theorem uh8 {L : List ua0} {p : List Int} (hp : p ∈ partsS L) : p.getD 0 0 ∈ p := by
  obtain ⟨b, w, eq, _⟩ := uh7 hp
  rw [eq, iv_head, mem_iv]; omega

theorem fu_at (L : List ua0) {j : Int} (hj : 0 ≤ j) : ati (fuS L) j = ⟨(ati L j).Exp, (ati L j).Dim, (ati L j).Sign, (ati L j).Odd, foF L j (ati L j).Oddity (partsS L)⟩ :=
  fuseF_at L hj _ _ (fun p hp => ⟨((ue9 L).2 p hp).1, ((ue9 L).2 p hp).2.1⟩)
theorem shp_fu (L : List ua0) : Shp L (fuS L) :=
  ⟨un3 L, fun j hj => by rw [fu_at L hj], fun j hj => by rw [fu_at L hj], fun j hj => by rw [fu_at L hj]⟩

theorem totF_bd (L : List ua0) (hL : ∀ c ∈ L, 0 ≤ c.Oddity ∧ c.Oddity ≤ 7) : ∀ (p : List Int) (s : Int), inR L.length p → 0 ≤ s → s + 8 * p.length ≤ 100000 → 0 ≤ totF L s p ∧ totF L s p ≤ 100000
  | [], s, _, h0, h1 => ⟨h0, by simp at h1; exact h1⟩
  | i :: r, s, hin, h0, h1 => by
    have hi := hin i (by simp)
    have hm := hL _ (uh2 hi.1 hi.2)
    simp only [List.length_cons] at h1
    rw [show totF L s (i :: r) = totF L (IntKind.wrap .i64 (s + (ati L i).Oddity)) r from rfl, uc5 (by omega) (by omega)]
    exact totF_bd L hL r _ (fun x hx => hin x (by simp [hx])) (by omega) (by omega)
theorem par_sum (L : List ua0) (hL : ordR L) (hO : ∀ c ∈ L, 0 ≤ c.Oddity ∧ c.Oddity ≤ 7) : ∀ (p : List Int) (s t : Int), inR L.length p → (∀ i ∈ p, ((ati L i).Oddity - (ati L i).Dim) % 2 = 0) → 0 ≤ s → s + 8 * p.length ≤ 100000 → 0 ≤ t → t + 8 * p.length ≤ 100000 → (s - t) % 2 = 0 → (dimF L s p - totF L t p) % 2 = 0
  | [], s, t, _, _, _, _, _, _, h => h
  | i :: r, s, t, hin, hpar, h0, h1, h2, h3, h => by
    have hi := hin i (by simp)
    have hm := hO _ (uh2 hi.1 hi.2)
    have hd := ascR_mem (by omega) hL.1 _ (uh2 hi.1 hi.2)
    have hp := hpar i (by simp)
    simp only [List.length_cons] at h1 h3
    rw [show totF L t (i :: r) = totF L (IntKind.wrap .i64 (t + (ati L i).Oddity)) r from rfl, uc5 (by omega) (by omega), show dimF L s (i :: r) = dimF L (IntKind.wrap .i64 (s + (ati L i).Dim)) r from rfl, uc5 (by omega) (by omega)]
    exact par_sum L hL hO r _ _ (fun x hx => hin x (by simp [hx])) (fun x hx => hpar x (by simp [hx])) (by omega) (by omega) (by omega) (by omega) (by omega)

theorem raw_odd {c : ua0} (h : legalS c) : (0 ≤ c.Oddity ∧ c.Oddity ≤ 7) ∧ (c.Odd = true → (c.Oddity - c.Dim) % 2 = 0) ∧ (c.Odd = false → c.Dim % 2 = 0 ∧ c.Oddity = 0) := by
  obtain ⟨E, D, S, O, Y⟩ := c
  cases O with
  | true =>
    have := (up1 E D S Y).1 h
    unfold legO at this
    exact ⟨⟨this.2.2.2.2.2.1, this.2.2.2.2.2.2.1⟩, fun _ => this.2.2.2.2.2.2.2.1, fun h => by simp at h⟩
  | false =>
    have := (legalS_even E D S Y).1 h
    unfold legE at this
    exact ⟨⟨this.2.2.2.2.2.1, this.2.2.2.2.2.2.1⟩, fun h => by simp at h, fun _ => this.2.2.2.2.2.2.2⟩

theorem fused_fu {L : List ua0} (h : raw2 L) : fusedS (fuS L) := by
  obtain ⟨g1, g2⟩ := h
  have hs := shp_fu L
  have h8 := uj2 g1
  have hO : ∀ c ∈ L, 0 ≤ c.Oddity ∧ c.Oddity ≤ 7 := fun c hc => (raw_odd (g2 c hc)).1
  obtain ⟨a1, a2⟩ := asc_ext (M := fuS L) (un3 L) (fun n hn => ⟨hs.exp n (by omega), hs.dim n (by omega), fun s => by
    rw [fu_at L (by omega)]; exact s⟩) g1.1
  have hfirst : ∀ p ∈ partsS L, p.getD 0 0 ∈ p := fun p hp => uh8 hp
  have hin : ∀ {p : List Int} {j : Int}, p ∈ partsS L → j ∈ p → (ati (fuS L) j).Oddity = if j = p.getD 0 0 then totS L p else 0 := fun {p j} hp hj => by
    have := ((ue9 L).2 p hp).2.1 j hj
    rw [fu_at L this.1]
    exact foF_in L hj _ _ hfirst (fun q hq hq' => by rw [← (un4 hq hq').1, (un4 hp hj).1]) (.inr hp)
  have htot : ∀ p ∈ partsS L, 0 ≤ totF L 0 p ∧ totS L p = totF L 0 p % 8 := fun p hp => by
    have hp' := (ue9 L).2 p hp
    have := totF_bd L hO p 0 hp'.2.1 (by omega) (by omega)
    exact ⟨this.1, by unfold totS; rw [Int.tmod_eq_emod_of_nonneg this.1]⟩
  refine ⟨⟨a1, by rw [a2]; exact g1.2⟩, fun c hc => ?_, ?_, ?_⟩
  · obtain ⟨n, hn, rfl⟩ := List.mem_iff_getElem.1 hc
    rw [← ati_nat hn]
    rw [un3] at hn
    have hr := raw_odd (g2 _ (uh2 (L := L) (i := (n : Int)) (by omega) (by omega)))
    unfold f1
    rw [hs.odd n (by omega), hs.dim n (by omega)]
    by_cases hm : memS L n = true
    · obtain ⟨p, hp, hi, _⟩ := part_of hn hm
      have hmo : (ati L (n : Int)).Odd = true := hm
      have ht := htot p hp
      rw [hin hp hi]
      refine ⟨?_, ?_, fun ho => by rw [hmo] at ho; exact absurd ho (by decide)⟩
      · split <;> omega
      · split <;> omega
    · have hmo : (ati L (n : Int)).Odd = false := by unfold memS at hm; simpa using hm
      have : (ati (fuS L) (n : Int)).Oddity = (ati L (n : Int)).Oddity := by
        rw [fu_at L (by omega)]
        refine foF_out L _ _ hfirst (fun p hp hi => hm ?_)
        have := (un4 hp hi).2
        rwa [Int.toNat_natCast] at this
      rw [this]
      exact ⟨hr.1.1, hr.1.2, hr.2.2⟩
  · rw [shp_parts hs]
    intro p hp j hj
    rw [hin hp (List.mem_of_mem_tail hj), if_neg (fun e => tail_first hp hp hj e.symm)]
  · rw [shp_parts hs]
    intro p hp
    have hp' := (ue9 L).2 p hp
    have ht := htot p hp
    have hpar := par_sum L g1 hO p 0 0 hp'.2.1 (fun i hi => by
      have hi' := hp'.2.1 i hi
      have := (un4 hp hi).2
      unfold memS at this
      rw [show ((i.toNat : Nat) : Int) = i by omega] at this
      exact (raw_odd (g2 _ (uh2 hi'.1 hi'.2))).2.1 this) (by omega) (by omega) (by omega) (by omega) (by omega)
    unfold fpar
    rw [shp_dimF hs p 0 (fun x hx => (hp'.2.1 x hx).1), hin hp (uh8 hp), if_pos rfl]
    omega

end Go.Cn
