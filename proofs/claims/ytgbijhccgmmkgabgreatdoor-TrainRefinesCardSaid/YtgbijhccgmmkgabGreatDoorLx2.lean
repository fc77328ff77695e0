/- The least raw symbol of the fused symbol of a raw one. -/
import Derived.Test.YtgbijhccgmmkgabGreatDoorLx1
import Derived.Test.YtgbijhccgmmkgabGreatDoorTx2a
set_option linter.unusedVariables false
noncomputable section
open Classical
namespace Go.Cn

def sumV (v : Int → Int) : List Int → Int
  | [] => 0
  | i :: c => v i + sumV v c
theorem okg_of {L : List ua0} {v : Int → Int} : ∀ (c : List Int) (t : Int), 0 ≤ t → t ≤ 7 → (∀ i ∈ c, (0 ≤ v i ∧ v i ≤ 7) ∧ legalS (wo L i (v i))) → (t - sumV v c) % 8 = 0 → Okg L c t (c.map v)
  | [], t, h0, h7, _, hs => by
    have hs : (t - 0) % 8 = 0 := hs
    show t = 0
    omega
  | i :: c, t, h0, h7, h, hs => by
    obtain ⟨⟨a1, a2⟩, a3⟩ := h i (by simp)
    have hs : (t - (v i + sumV v c)) % 8 = 0 := hs
    exact ⟨a1, a2, a3, okg_of c _ (by omega) (by omega) (fun x hx => h x (by simp [hx])) (by omega)⟩
theorem okg_out {L : List ua0} {v : Int → Int} : ∀ (c : List Int) (t : Int), 0 ≤ t → t ≤ 7 → Okg L c t (c.map v) → (∀ i ∈ c, (0 ≤ v i ∧ v i ≤ 7) ∧ legalS (wo L i (v i))) ∧ (t - sumV v c) % 8 = 0
  | [], t, h0, h7, h => by
    have : t = 0 := h
    subst this
    exact ⟨fun i hi => absurd hi (by simp), rfl⟩
  | i :: c, t, h0, h7, h => by
    obtain ⟨a1, a2, a3, a4⟩ := h
    obtain ⟨b1, b2⟩ := okg_out c _ (by omega) (by omega) a4
    refine ⟨fun x hx => ?_, ?_⟩
    · rcases List.mem_cons.1 hx with rfl | hx
      · exact ⟨⟨a1, a2⟩, a3⟩
      · exact b1 x hx
    · show (t - (v i + sumV v c)) % 8 = 0
      omega
theorem totF_sum (L : List ua0) (hL : ∀ c ∈ L, 0 ≤ c.Oddity ∧ c.Oddity ≤ 7) : ∀ (p : List Int) (s : Int), inR L.length p → 0 ≤ s → s + 8 * p.length ≤ 100000 → totF L s p = s + sumV (fun i => (ati L i).Oddity) p
  | [], s, _, _, _ => by show s = s + 0; omega
  | i :: r, s, hin, h0, h1 => by
    have hi := hin i (by simp)
    have hm := hL _ (uh2 hi.1 hi.2)
    simp only [List.length_cons] at h1
    rw [show totF L s (i :: r) = totF L (IntKind.wrap .i64 (s + (ati L i).Oddity)) r from rfl, uc5 (by omega) (by omega), totF_sum L hL r _ (fun x hx => hin x (by simp [hx])) (by omega) (by omega)]
    show _ = s + ((ati L i).Oddity + _)
    omega
theorem tot_sum {L : List ua0} (hL : ∀ c ∈ L, 0 ≤ c.Oddity ∧ c.Oddity ≤ 7) {p : List Int} (hin : inR L.length p) (hp : p.length ≤ 1000) : totS L p = sumV (fun i => (ati L i).Oddity) p % 8 ∧ 0 ≤ sumV (fun i => (ati L i).Oddity) p := by
  have h1 := totF_sum L hL p 0 hin (by omega) (by omega)
  have h2 := totF_bd L hL p 0 hin (by omega) (by omega)
  rw [Int.zero_add] at h1
  unfold totS
  rw [h1] at h2 ⊢
  exact ⟨Int.tmod_eq_emod_of_nonneg h2.1, h2.1⟩

theorem iv_nodup (a m : Nat) : (iv a m).Nodup := by
  unfold iv
  have h := List.nodup_range' (s := a) (n := m) (step := 1)
  unfold List.Nodup at h ⊢
  rw [List.pairwise_map]
  exact h.imp (fun hne e => hne (Int.ofNat.inj e))

theorem rfP_spec (f l : List ua0) : ∀ (r : List (List Int)) (lo hi : Nat) (out : List ua0), Chn lo r hi → hi ≤ f.length → (∀ p ∈ r, Okg f p (totS f p) (vals l p)) → out.length = f.length → (∀ j : Int, 0 ≤ j → ∀ w, wo out j w = wo f j w) →
    ∃ o, rfP f r out = some o ∧ o.length = f.length ∧ (∀ j : Int, 0 ≤ j → ∀ w, wo o j w = wo f j w) ∧ (∀ j : Int, 0 ≤ j → (∀ p ∈ r, j ∉ p) → (ati o j).Oddity = (ati out j).Oddity) ∧ ∀ p ∈ r, Okg f p (totS f p) (vals o p) ∧ lle (vals o p) (vals l p)
  | [], lo, hi, out, _, _, _, hl, hw => ⟨out, rfl, hl, hw, fun _ _ _ => rfl, fun p hp => absurd hp (by simp)⟩
  | p :: r, lo, hi, out, ⟨a, m, h1, h2, h3⟩, hh, hg, hl, hw => by
    have hle := chn_le h3
    have hin : inR out.length p := fun i hi => by rw [h2, mem_iv] at hi; omega
    obtain ⟨s1, s2⟩ := rfS_spec p out (totS f p) hin (by rw [h2]; exact iv_nodup _ _)
    have hc : ∀ g, Okg out p (totS f p) g ↔ Okg f p (totS f p) g := fun g => okg_congr (fun i hi w => hw i (hin i hi).1 w)
    obtain ⟨t1, t2⟩ := s2 _ ((hc _).2 (hg p (by simp)))
    have ho := rfS_only p out (totS f p) hin
    obtain ⟨o, q1, q2, q3, q4, q5⟩ := rfP_spec f l r (a + m + 1) hi (rfS p out (totS f p)).2 h3 hh (fun q hq => hg q (by simp [hq])) (ho.len.trans hl) (fun j hj w => (ho.shp j hj w).trans (hw j hj w))
    have far : ∀ j : Int, j < ((a + m + 1 : Nat) : Int) → ∀ q ∈ r, j ∉ q := fun j hj q hq hjq => by
      obtain ⟨b, w, k1, k2, k3⟩ := chn_mem h3 q hq
      rw [k1, mem_iv] at hjq
      omega
    have hv : vals o p = vals (rfS p out (totS f p)).2 p := by
      unfold vals
      refine List.map_congr_left fun i hi => ?_
      have hi' := hi
      rw [h2, mem_iv] at hi'
      exact q4 i (by omega) (far i (by omega))
    refine ⟨o, by show (if _ then _ else _) = _; rw [if_pos t1]; exact q1, q2, q3, fun j hj hn => ?_, fun q hq => ?_⟩
    · rw [q4 j hj (fun q hq => hn q (by simp [hq]))]
      exact ho.off j hj (hn p (by simp))
    · rcases List.mem_cons.1 hq with rfl | hq
      · rw [hv]
        exact ⟨(hc _).1 (s1 t1), t2⟩
      · exact q5 q hq

/-- the refinement of the fused symbol of a raw one -/
structure Refd (l o : List ua0) : Prop where
  len : o.length = l.length
  raw : raw2 o
  fu : fuS o = fuS l
  lex : ∀ n : Nat, n < l.length → (∀ j : Nat, j < n → (ati o (j : Int)).Oddity = (ati l (j : Int)).Oddity) → (ati o (n : Int)).Oddity ≤ (ati l (n : Int)).Oddity

theorem lle_at : ∀ {xs ys : List Int} (k : Nat) {x y : Int}, lle xs ys → xs[k]? = some x → ys[k]? = some y → (∀ j, j < k → xs[j]? = ys[j]?) → x ≤ y
  | [], [], k, x, y, h, hx, hy, he => by simp at hx
  | [], _ :: _, k, x, y, h, hx, hy, he => by simp at hx
  | _ :: _, [], k, x, y, h, hx, hy, he => by simp at hy
  | a :: xs, b :: ys, 0, x, y, h, hx, hy, he => by
    simp at hx hy
    subst hx; subst hy
    rcases h with h | ⟨h, _⟩ <;> omega
  | a :: xs, b :: ys, k + 1, x, y, h, hx, hy, he => by
    have h0 := he 0 (by omega)
    simp at h0
    rcases h with h | ⟨_, h⟩
    · omega
    · exact lle_at k h (by simpa using hx) (by simpa using hy) (fun j hj => by simpa using he (j + 1) (by omega))

theorem ref_fused {l : List ua0} (h : raw2 l) : ∃ o, refS (fuS l) = some o ∧ Refd l o := by
  obtain ⟨g1, g2⟩ := h
  have hs := shp_fu l
  have h8 := uj2 g1
  have hff := fused_fu ⟨g1, g2⟩
  have hP := shp_parts hs
  have hfl := un3 l
  have hO : ∀ c ∈ l, 0 ≤ c.Oddity ∧ c.Oddity ≤ 7 := fun c hc => (raw_odd (g2 c hc)).1
  have hfirst : ∀ p ∈ partsS l, p.getD 0 0 ∈ p := fun p hp => uh8 hp
  have hpl : ∀ p ∈ partsS l, inR l.length p ∧ p.length ≤ 1000 := fun p hp => ⟨((ue9 l).2 p hp).2.1, by have := ((ue9 l).2 p hp).2.2; omega⟩
  have inn : ∀ (M : List ua0) {p : List Int} {j : Int}, p ∈ partsS M → j ∈ p → (ati (fuS M) j).Oddity = if j = p.getD 0 0 then totS M p else 0 := fun M {p j} hp hj => by
    have := ((ue9 M).2 p hp).2.1 j hj
    rw [fu_at M this.1]
    exact foF_in M hj _ _ (fun p hp => uh8 hp) (fun q hq hq' => by rw [← (un4 hq hq').1, (un4 hp hj).1]) (.inr hp)
  have outn : ∀ (M : List ua0) {j : Int}, 0 ≤ j → (∀ p ∈ partsS M, j ∉ p) → (ati (fuS M) j).Oddity = (ati M j).Oddity := fun M {j} hj hn => by
    rw [fu_at M hj]
    exact foF_out M _ _ (fun p hp => uh8 hp) hn
  have hwf : ∀ j : Int, 0 ≤ j → wo (fuS l) j (ati l j).Oddity = ati l j := fun j hj => by unfold wo; rw [fu_at l hj]
  have htf : ∀ p ∈ partsS l, totS (fuS l) p = totS l p := fun p hp => by
    rw [tot_fused hff (by rw [hP]; exact hp), inn l hp (uh8 hp), if_pos rfl]
  have htr : ∀ p ∈ partsS l, 0 ≤ totS (fuS l) p ∧ totS (fuS l) p ≤ 7 := fun p hp => tot_range hff (by rw [hP]; exact hp)
  have hok : ∀ p ∈ partsS l, Okg (fuS l) p (totS (fuS l) p) (vals l p) := fun p hp => by
    obtain ⟨r1, r2⟩ := htr p hp
    refine okg_of (v := fun i => (ati l i).Oddity) p _ r1 r2 (fun i hi => ?_) ?_
    · have hir := (hpl p hp).1 i hi
      have hm := uh2 hir.1 hir.2
      exact ⟨hO _ hm, by show legalS (wo (fuS l) i (ati l i).Oddity); rw [hwf i hir.1]; exact g2 _ hm⟩
    · have := tot_sum hO (hpl p hp).1 (hpl p hp).2
      rw [htf p hp, this.1]
      have := this.2
      omega
  obtain ⟨o, q1, q2, q3, q4, q5⟩ := rfP_spec (fuS l) l (partsS l) 0 l.length (fuS l) (runs_chn _ _ _) (by rw [hfl]; exact Nat.le_refl _) hok rfl (fun _ _ _ => rfl)
  have hol : o.length = l.length := q2.trans hfl
  have hwo : ∀ j : Int, 0 ≤ j → ati o j = wo l j (ati o j).Oddity := fun j hj => by
    have h1 := q3 j hj (ati o j).Oddity
    have h2 : wo o j (ati o j).Oddity = ati o j := rfl
    rw [← h2, h1]
    unfold wo
    rw [fu_at l hj]
  have hsh : Shp l o := ⟨hol, fun j hj => by rw [hwo j hj]; rfl, fun j hj => by rw [hwo j hj]; rfl, fun j hj => by rw [hwo j hj]; rfl⟩
  have hPo := shp_parts hsh
  have hout : ∀ j : Int, 0 ≤ j → (∀ p ∈ partsS l, j ∉ p) → (ati o j).Oddity = (ati l j).Oddity := fun j hj hn => (q4 j hj hn).trans (outn l hj hn)
  have hOk : ∀ p ∈ partsS l, (∀ i ∈ p, (0 ≤ (ati o i).Oddity ∧ (ati o i).Oddity ≤ 7) ∧ legalS (ati o i)) ∧ (totS (fuS l) p - sumV (fun i => (ati o i).Oddity) p) % 8 = 0 := fun p hp => by
    obtain ⟨r1, r2⟩ := htr p hp
    obtain ⟨k1, k2⟩ := okg_out (v := fun i => (ati o i).Oddity) p _ r1 r2 (q5 p hp).1
    refine ⟨fun i hi => ⟨(k1 i hi).1, ?_⟩, k2⟩
    have hir := (hpl p hp).1 i hi
    have := (k1 i hi).2
    rw [← q3 i hir.1] at this
    exact this
  have hcov : ∀ n : Nat, n < l.length → (∃ p ∈ partsS l, (n : Int) ∈ p) ∨ ∀ p ∈ partsS l, (n : Int) ∉ p := fun n hn => by
    by_cases c : ∃ p ∈ partsS l, (n : Int) ∈ p
    · exact .inl c
    · exact .inr fun p hp hi => c ⟨p, hp, hi⟩
  have hat : ∀ n : Nat, n < l.length → (∀ p ∈ partsS l, (n : Int) ∉ p) → ati o (n : Int) = ati l (n : Int) := fun n hn hnp => by
    rw [hwo n (by omega), hout n (by omega) hnp]; rfl
  have hleg : ∀ c ∈ o, legalS c := fun c hc => by
    obtain ⟨n, hn, rfl⟩ := List.mem_iff_getElem.1 hc
    rw [← ati_nat hn]
    rw [hol] at hn
    rcases hcov n hn with ⟨p, hp, hi⟩ | hnp
    · exact ((hOk p hp).1 _ hi).2
    · rw [hat n hn hnp]; exact g2 _ (uh2 (by omega) (by omega))
  obtain ⟨a1, a2⟩ := asc_ext (M := o) hol (fun n hn => ⟨hsh.exp n (by omega), hsh.dim n (by omega), fun s => by rw [hwo n (by omega)]; exact s⟩) g1.1
  have hOo : ∀ c ∈ o, 0 ≤ c.Oddity ∧ c.Oddity ≤ 7 := fun c hc => (raw_odd (hleg c hc)).1
  refine ⟨o, by unfold refS; rw [hP]; exact q1, hol, ⟨⟨a1, by rw [a2]; exact g1.2⟩, hleg⟩, ?_, ?_⟩
  · refine ext_ati (by rw [un3, un3, hol]) fun n hn => ?_
    rw [un3] at hn
    have e : (ati (fuS o) (n : Int)).Oddity = (ati (fuS l) (n : Int)).Oddity := by
      rcases hcov n hn with ⟨p, hp, hi⟩ | hnp
      · rw [inn o (by rw [hPo]; exact hp) hi, inn l hp hi]
        have t1 := tot_sum hOo (p := p) (by rw [hol]; exact (hpl p hp).1) (hpl p hp).2
        have t2 := (hOk p hp).2
        have t3 := htr p hp
        rw [htf p hp] at t2 t3
        have : totS o p = totS l p := by rw [t1.1]; omega
        rw [this]
      · rw [outn o (by omega) (by rw [hPo]; exact hnp), outn l (by omega) hnp, hout n (by omega) hnp]
    rw [fu_at o (by omega), fu_at l (by omega)] at e ⊢
    dsimp only at e
    rw [e, hwo n (by omega)]
    rfl
  · intro n hn hj
    rcases hcov n hn with ⟨p, hp, hi⟩ | hnp
    · obtain ⟨a, m, ep, hb⟩ := uh7 hp
      have hi' := hi
      rw [ep, mem_iv] at hi'
      have hl := (q5 p hp).2
      rw [ep] at hl
      have gt : ∀ (M : List ua0) (j : Nat), j < m + 1 → (vals M (iv a (m + 1)))[j]? = some (ati M ((a + j : Nat) : Int)).Oddity := fun M j hj => by
        unfold vals
        rw [List.getElem?_map, iv_get hj]; rfl
      refine lle_at (n - a) hl (gt o (n - a) (by omega) |>.trans (by rw [show a + (n - a) = n by omega])) (gt l (n - a) (by omega) |>.trans (by rw [show a + (n - a) = n by omega])) (fun j hjj => ?_)
      rw [gt o j (by omega), gt l j (by omega), hj (a + j) (by omega)]
    · rw [hat n hn hnp]; exact Int.le_refl _

end Go.Cn
