/- The fused symbol of a raw one is fused; walks keep the oddity of the whole symbol. -/
import Derived.Test.YtgbijhccgmmkgaaGreatDoorTx1
import Derived.Test.YtgbijhccgmmkgaaGreatDoorTd3
set_option linter.unusedVariables false
noncomputable section
open Classical
namespace Go.Cn

/-! ### the fused symbol, place by place -/
theorem zeroS_at {j : Int} (hj : 0 ≤ j) : ∀ (p : List Int) (L : List Constituent), inR L.length p → ati (zeroS L p) j = if j ∈ p then ⟨(ati L j).Exp, (ati L j).Dim, (ati L j).Sign, (ati L j).Odd, 0⟩ else ati L j := by
  intro p
  induction p with
  | nil => intro L _; rw [if_neg (by simp)]; rfl
  | cons a r ih =>
    intro L hin
    have ha := hin a (by simp)
    show ati (zeroS (setO L a 0) r) j = _
    rw [ih _ (by rw [setO_len]; exact fun x hx => hin x (by simp [hx])), ati_setO ha.1 ha.2 hj]
    by_cases h : j = a
    · subst h
      rw [if_pos rfl, if_pos (show j ∈ j :: r by simp)]
      split <;> rfl
    · rw [if_neg h]
      by_cases hr : j ∈ r
      · rw [if_pos hr, if_pos (by simp [hr])]
      · rw [if_neg hr, if_neg (by simp [h, hr])]
/-- the oddity of place j -/
def foF (L0 : List Constituent) (j o : Int) : List (List Int) → Int
  | [] => o
  | p :: r => foF L0 j (if j = p.getD 0 0 then totS L0 p else if j ∈ p then 0 else o) r
theorem fuseF_at (L0 : List Constituent) {j : Int} (hj : 0 ≤ j) : ∀ (P : List (List Int)) (L : List Constituent), (∀ p ∈ P, p ≠ [] ∧ inR L.length p) → ati (fuseF L0 L P) j = ⟨(ati L j).Exp, (ati L j).Dim, (ati L j).Sign, (ati L j).Odd, foF L0 j (ati L j).Oddity P⟩ := by
  intro P
  induction P with
  | nil => intro L _; rfl
  | cons p r ih =>
    intro L hin
    obtain ⟨h0, h1⟩ := hin p (by simp)
    obtain ⟨a, q, rfl⟩ := len_pos h0
    have ha := h1 a (by simp)
    show ati (fuseF L0 (setO (zeroS L (a :: q)) a (totS L0 (a :: q))) r) j = _
    rw [ih _ (by rw [setO_len, zeroS_len]; exact fun x hx => hin x (by simp [hx])), ati_setO ha.1 (by rw [zeroS_len]; exact ha.2) hj, zeroS_at hj _ _ h1]
    show _ = (⟨_, _, _, _, foF L0 j (if j = a then _ else _) r⟩ : Constituent)
    by_cases h : j = a
    · rw [if_pos h, if_pos h]
      split <;> rfl
    · rw [if_neg h, if_neg h]
      by_cases hp : j ∈ a :: q
      · rw [if_pos hp, if_pos hp]
      · rw [if_neg hp, if_neg hp]
theorem foF_out (L0 : List Constituent) {j : Int} : ∀ (P : List (List Int)) (o : Int), (∀ p ∈ P, p.getD 0 0 ∈ p) → (∀ p ∈ P, j ∉ p) → foF L0 j o P = o
  | [], o, _, _ => rfl
  | p :: r, o, hh, h => by
    show foF L0 j _ r = o
    have h1 := h p (by simp)
    rw [if_neg (fun e => h1 (by rw [e]; exact hh p (by simp))), if_neg h1]
    exact foF_out L0 r o (fun q hq => hh q (by simp [hq])) (fun q hq => h q (by simp [hq]))
theorem foF_in (L0 : List Constituent) {j : Int} {p : List Int} (hj : j ∈ p) : ∀ (P : List (List Int)) (o : Int), (∀ p ∈ P, p.getD 0 0 ∈ p) → (∀ q ∈ P, j ∈ q → q = p) → (o = (if j = p.getD 0 0 then totS L0 p else 0) ∨ p ∈ P) → foF L0 j o P = if j = p.getD 0 0 then totS L0 p else 0
  | [], o, _, _, h => by
    rcases h with h | h
    · exact h
    · simp at h
  | q :: r, o, hh, hu, h => by
    show foF L0 j _ r = _
    refine foF_in L0 hj r _ (fun q hq => hh q (by simp [hq])) (fun q hq => hu q (by simp [hq])) ?_
    by_cases hq : j ∈ q
    · have e := hu q (by simp) hq
      subst e
      exact .inl (by rw [if_pos hj])
    · rw [if_neg (fun e => hq (by rw [e]; exact hh q (by simp))), if_neg hq]
      rcases h with h | h
      · exact .inl h
      · rcases List.mem_cons.1 h with h | h
        · subst h; exact absurd hj hq
        · exact .inr h
theorem part_first {L : List Constituent} {p : List Int} (hp : p ∈ partsS L) : p.getD 0 0 ∈ p := by
  obtain ⟨b, w, eq, _⟩ := part_shape hp
  rw [eq, iv_head, mem_iv]; omega

theorem fu_at (L : List Constituent) {j : Int} (hj : 0 ≤ j) : ati (fuS L) j = ⟨(ati L j).Exp, (ati L j).Dim, (ati L j).Sign, (ati L j).Odd, foF L j (ati L j).Oddity (partsS L)⟩ :=
  fuseF_at L hj _ _ (fun p hp => ⟨((parts_ok L).2 p hp).1, ((parts_ok L).2 p hp).2.1⟩)
theorem shp_fu (L : List Constituent) : Shp L (fuS L) :=
  ⟨fuS_len L, fun j hj => by rw [fu_at L hj], fun j hj => by rw [fu_at L hj], fun j hj => by rw [fu_at L hj]⟩

theorem totF_bd (L : List Constituent) (hL : ∀ c ∈ L, 0 ≤ c.Oddity ∧ c.Oddity ≤ 7) : ∀ (p : List Int) (s : Int), inR L.length p → 0 ≤ s → s + 8 * p.length ≤ 100000 → 0 ≤ totF L s p ∧ totF L s p ≤ 100000
  | [], s, _, h0, h1 => ⟨h0, by simp at h1; exact h1⟩
  | i :: r, s, hin, h0, h1 => by
    have hi := hin i (by simp)
    have hm := hL _ (ati_mem hi.1 hi.2)
    simp only [List.length_cons] at h1
    rw [show totF L s (i :: r) = totF L (IntKind.wrap .i64 (s + (ati L i).Oddity)) r from rfl, wrap_id (by omega) (by omega)]
    exact totF_bd L hL r _ (fun x hx => hin x (by simp [hx])) (by omega) (by omega)
theorem par_sum (L : List Constituent) (hL : ordR L) (hO : ∀ c ∈ L, 0 ≤ c.Oddity ∧ c.Oddity ≤ 7) : ∀ (p : List Int) (s t : Int), inR L.length p → (∀ i ∈ p, ((ati L i).Oddity - (ati L i).Dim) % 2 = 0) → 0 ≤ s → s + 8 * p.length ≤ 100000 → 0 ≤ t → t + 8 * p.length ≤ 100000 → (s - t) % 2 = 0 → (dimF L s p - totF L t p) % 2 = 0
  | [], s, t, _, _, _, _, _, _, h => h
  | i :: r, s, t, hin, hpar, h0, h1, h2, h3, h => by
    have hi := hin i (by simp)
    have hm := hO _ (ati_mem hi.1 hi.2)
    have hd := ascR_mem (by omega) hL.1 _ (ati_mem hi.1 hi.2)
    have hp := hpar i (by simp)
    simp only [List.length_cons] at h1 h3
    rw [show totF L t (i :: r) = totF L (IntKind.wrap .i64 (t + (ati L i).Oddity)) r from rfl, wrap_id (by omega) (by omega), show dimF L s (i :: r) = dimF L (IntKind.wrap .i64 (s + (ati L i).Dim)) r from rfl, wrap_id (by omega) (by omega)]
    exact par_sum L hL hO r _ _ (fun x hx => hin x (by simp [hx])) (fun x hx => hpar x (by simp [hx])) (by omega) (by omega) (by omega) (by omega) (by omega)

theorem raw_odd {c : Constituent} (h : legalS c) : (0 ≤ c.Oddity ∧ c.Oddity ≤ 7) ∧ (c.Odd = true → (c.Oddity - c.Dim) % 2 = 0) ∧ (c.Odd = false → c.Dim % 2 = 0 ∧ c.Oddity = 0) := by
  obtain ⟨E, D, S, O, Y⟩ := c
  cases O with
  | true =>
    have := (legalS_odd E D S Y).1 h
    unfold legO at this
    exact ⟨⟨this.2.2.2.2.2.1, this.2.2.2.2.2.2.1⟩, fun _ => this.2.2.2.2.2.2.2.1, fun h => by simp at h⟩
  | false =>
    have := (legalS_even E D S Y).1 h
    unfold legE at this
    exact ⟨⟨this.2.2.2.2.2.1, this.2.2.2.2.2.2.1⟩, fun h => by simp at h, fun _ => this.2.2.2.2.2.2.2⟩

theorem fused_fu {L : List Constituent} (h : raw2 L) : fusedS (fuS L) := by
  obtain ⟨g1, g2⟩ := h
  have hs := shp_fu L
  have h8 := ordR_len g1
  have hO : ∀ c ∈ L, 0 ≤ c.Oddity ∧ c.Oddity ≤ 7 := fun c hc => (raw_odd (g2 c hc)).1
  obtain ⟨a1, a2⟩ := asc_ext (M := fuS L) (fuS_len L) (fun n hn => ⟨hs.exp n (by omega), hs.dim n (by omega), fun s => by
    rw [fu_at L (by omega)]; exact s⟩) g1.1
  have hfirst : ∀ p ∈ partsS L, p.getD 0 0 ∈ p := fun p hp => part_first hp
  have hin : ∀ {p : List Int} {j : Int}, p ∈ partsS L → j ∈ p → (ati (fuS L) j).Oddity = if j = p.getD 0 0 then totS L p else 0 := fun {p j} hp hj => by
    have := ((parts_ok L).2 p hp).2.1 j hj
    rw [fu_at L this.1]
    exact foF_in L hj _ _ hfirst (fun q hq hq' => by rw [← (part_is hq hq').1, (part_is hp hj).1]) (.inr hp)
  have htot : ∀ p ∈ partsS L, 0 ≤ totF L 0 p ∧ totS L p = totF L 0 p % 8 := fun p hp => by
    have hp' := (parts_ok L).2 p hp
    have := totF_bd L hO p 0 hp'.2.1 (by omega) (by omega)
    exact ⟨this.1, by unfold totS; rw [Int.tmod_eq_emod_of_nonneg this.1]⟩
  refine ⟨⟨a1, by rw [a2]; exact g1.2⟩, fun c hc => ?_, ?_, ?_⟩
  · obtain ⟨n, hn, rfl⟩ := List.mem_iff_getElem.1 hc
    rw [← ati_nat hn]
    rw [fuS_len] at hn
    have hr := raw_odd (g2 _ (ati_mem (L := L) (i := (n : Int)) (by omega) (by omega)))
    unfold f1
    rw [hs.odd n (by omega), hs.dim n (by omega)]
    by_cases hm : memS L n = true
    · obtain ⟨p, hp, hi, _⟩ := part_of hn hm
      have hmo : (ati L (n : Int)).Odd = true := hm
      have ht := htot p hp
      rw [hin hp hi]
      refine ⟨?_, ?_, fun ho => by rw [hmo] at ho; exact absurd ho (by decide)⟩
      · split <;> omega
      · split <;> omega
    · have hmo : (ati L (n : Int)).Odd = false := by unfold memS at hm; simpa using hm
      have : (ati (fuS L) (n : Int)).Oddity = (ati L (n : Int)).Oddity := by
        rw [fu_at L (by omega)]
        refine foF_out L _ _ hfirst (fun p hp hi => hm ?_)
        have := (part_is hp hi).2
        rwa [Int.toNat_natCast] at this
      rw [this]
      exact ⟨hr.1.1, hr.1.2, hr.2.2⟩
  · rw [shp_parts hs]
    intro p hp j hj
    rw [hin hp (List.mem_of_mem_tail hj), if_neg (fun e => tail_first hp hp hj e.symm)]
  · rw [shp_parts hs]
    intro p hp
    have hp' := (parts_ok L).2 p hp
    have ht := htot p hp
    have hpar := par_sum L g1 hO p 0 0 hp'.2.1 (fun i hi => by
      have hi' := hp'.2.1 i hi
      have := (part_is hp hi).2
      unfold memS at this
      rw [show ((i.toNat : Nat) : Int) = i by omega] at this
      exact (raw_odd (g2 _ (ati_mem hi'.1 hi'.2))).2.1 this) (by omega) (by omega) (by omega) (by omega) (by omega)
    unfold fpar
    rw [shp_dimF hs p 0 (fun x hx => (hp'.2.1 x hx).1), hin hp (part_first hp), if_pos rfl]
    omega

/-! ### sums over places -/
def Sm (f : Nat → Int) : Nat → Int
  | 0 => 0
  | n + 1 => Sm f n + f n
theorem Sm_add (f g : Nat → Int) : ∀ n, Sm (fun j => f j + g j) n = Sm f n + Sm g n
  | 0 => rfl
  | n + 1 => by show Sm _ n + (f n + g n) = Sm f n + f n + (Sm g n + g n); rw [Sm_add f g n]; omega
theorem Sm_pt (a : Nat) (c : Int) : ∀ n, Sm (fun j => if j = a then c else 0) n = if a < n then c else 0
  | 0 => rfl
  | n + 1 => by
    show Sm _ n + (if n = a then c else 0) = _
    rw [Sm_pt a c n]
    by_cases h : n = a
    · subst h; rw [if_pos rfl, if_neg (by omega), if_pos (by omega)]; omega
    · rw [if_neg h]
      by_cases h' : a < n
      · rw [if_pos h', if_pos (by omega)]; omega
      · rw [if_neg h', if_neg (by omega)]; rfl
theorem Sm_mod {f g h : Nat → Int} : ∀ {n : Nat}, (∀ j, j < n → (f j - g j - 4 * h j) % 8 = 0) → (Sm f n - Sm g n - 4 * Sm h n) % 8 = 0
  | 0, _ => by simp [Sm]
  | n + 1, hh => by
    have h1 := Sm_mod (n := n) (fun j hj => hh j (by omega))
    have h2 := hh n (by omega)
    show (Sm f n + f n - (Sm g n + g n) - 4 * (Sm h n + h n)) % 8 = 0
    omega

/-- what one constituent adds -/
def wt (c : Constituent) : Int := c.Oddity + (if Int.tmod c.Exp 2 = 1 then (if c.Sign = -1 then 4 else 0) else 0)
theorem wt_nonneg {c : Constituent} (h : 0 ≤ c.Oddity) : 0 ≤ wt c := by
  unfold wt
  split
  · split <;> omega
  · omega
theorem odF_sum (L : List Constituent) (hL : L.length ≤ 900) (hO : ∀ c ∈ L, 0 ≤ c.Oddity ∧ c.Oddity ≤ 7) : ∀ (r : List Constituent) (n : Nat) (s : Int), L.drop n = r → n ≤ L.length → s = Sm (fun j => wt (ati L (j : Int))) n → 0 ≤ s → s ≤ 11 * n → odF s r = Sm (fun j => wt (ati L (j : Int))) L.length := by
  intro r
  induction r with
  | nil =>
    intro n s hr hn hs h0 h1
    have := elt_end hr hn
    show s = _
    rw [hs, this]
  | cons c r ih =>
    intro n s hr hn hs h0 h1
    obtain ⟨g1, g2, g3, g4⟩ := elt_drop hr
    have hc := drop_ati hr
    have hm := hO c (List.mem_of_getElem? g4)
    have key : (if Int.tmod c.Exp 2 = 1 then (if c.Sign = -1 then IntKind.wrap .i64 (IntKind.wrap .i64 (s + c.Oddity) + 4) else IntKind.wrap .i64 (s + c.Oddity)) else IntKind.wrap .i64 (s + c.Oddity)) = s + wt c := by
      have e1 : IntKind.wrap .i64 (s + c.Oddity) = s + c.Oddity := wrap_id (by omega) (by omega)
      have e2 : IntKind.wrap .i64 (s + c.Oddity + 4) = s + c.Oddity + 4 := wrap_id (by omega) (by omega)
      rw [e1, e2]
      unfold wt
      split
      · split <;> omega
      · omega
    have hw : 0 ≤ wt c ∧ wt c ≤ 11 := by
      unfold wt
      split
      · split <;> omega
      · omega
    show odF _ r = _
    rw [key]
    exact ih (n + 1) (s + wt c) g3 (by omega) (by show _ = Sm _ n + wt (ati L (n : Int)); rw [hs, hc]) (by omega) (by omega)

/-! ### neighbours in one part -/
theorem same_part {L : List Constituent} {n : Nat} (hn : n + 1 < L.length) (m1 : memS L n = true) (m2 : memS L (n + 1) = true) :
    (joiS L (n + 1) = true → ptS (partsS L) (n : Int) = ptS (partsS L) ((n + 1 : Nat) : Int)) ∧ (¬ joiS L (n + 1) = true → (ptS (partsS L) (n : Int)).getD 0 0 ≠ (ptS (partsS L) ((n + 1 : Nat) : Int)).getD 0 0) := by
  obtain ⟨p, hp, hi, ep⟩ := part_of (by omega) m1
  obtain ⟨q, hq, hj, eq⟩ := part_of hn m2
  obtain ⟨a, m, h1, h2, h3⟩ := runs_good q hq
  rw [ep, eq]
  have hj' := hj
  rw [h1, mem_iv] at hj'
  refine ⟨fun hjo => ?_, fun hnj e => ?_⟩
  · have han : a ≠ n + 1 := fun e => by
      subst e
      exact h3 ⟨⟨by omega, m1⟩, hjo⟩
    have : (n : Int) ∈ q := by rw [h1, mem_iv]; omega
    rw [← ep, (part_is hq this).1]
  · obtain ⟨b, w, k1, _⟩ := part_shape hp
    have hi' := hi
    rw [k1, mem_iv] at hi'
    rw [k1, h1, iv_head, iv_head] at e
    exact hnj (h2 (n + 1) (by omega) (by omega))

/-- how many first places a walk changes: one where the exponents differ by one, two where they differ by two -/
theorem fst2_len {L : List Constituent} (h : ordR L) {n : Nat} (hn : n + 1 < L.length) (hl : lkS L ((n + 1 : Nat) : Int) = true) :
    ((ati L ((n + 1 : Nat) : Int)).Exp - (ati L (n : Int)).Exp = 1 ∧ ∃ a : Nat, a < L.length ∧ fst2 L ((n + 1 : Nat) : Int) = [(a : Int)]) ∨
    ((ati L ((n + 1 : Nat) : Int)).Exp - (ati L (n : Int)).Exp = 2 ∧ ∃ a b : Nat, a < L.length ∧ b < L.length ∧ a ≠ b ∧ fst2 L ((n + 1 : Nat) : Int) = [(a : Int), (b : Int)]) := by
  have hE := ord_exp h
  have e1 := hE (n + 1) hn
  have e2 := hE n (by omega)
  have hpt : ∀ m : Nat, m < L.length → memS L m = true → ∃ (a : Nat) (r : List Int), a < L.length ∧ ptS (partsS L) (m : Int) = (a : Int) :: r := fun m hm ho => by
    obtain ⟨p, hp, hi, ep⟩ := part_of hm ho
    obtain ⟨b, w, k1, k2⟩ := part_shape hp
    exact ⟨b, iv (b + 1) w, by omega, by rw [ep, k1]; unfold iv; rfl⟩
  have hi1 : ((n + 1 : Nat) : Int) - 1 = (n : Int) := by omega
  unfold lkS at hl
  unfold fst2
  rw [hi1] at hl ⊢
  rw [wrap_id (by omega) (by omega)] at hl
  have mo : ∀ m : Nat, (ati L (m : Int)).Odd = memS L m := fun m => rfl
  rw [mo n, mo (n + 1)] at hl
  by_cases c1 : (ati L ((n + 1 : Nat) : Int)).Exp - (ati L (n : Int)).Exp = 1
  · rw [if_pos c1] at hl
    refine .inl ⟨c1, ?_⟩
    cases m1 : memS L n with
    | true =>
      obtain ⟨a, r, ha, ea⟩ := hpt n (by omega) m1
      cases m2 : memS L (n + 1) with
      | true =>
        have hjo : joiS L (n + 1) = true := by
          unfold joiS
          rw [show n + 1 - 1 = n by omega, wrap_id (by omega) (by omega)]
          exact decide_eq_true (by omega)
        have := (same_part hn m1 m2).1 hjo
        rw [← this, ea]
        exact ⟨a, ha, by simp [firsts]⟩
      | false =>
        rw [pt_nil m2, ea]
        exact ⟨a, ha, by simp [firsts]⟩
    | false =>
      cases m2 : memS L (n + 1) with
      | true =>
        obtain ⟨a, r, ha, ea⟩ := hpt (n + 1) (by omega) m2
        rw [pt_nil m1, ea]
        exact ⟨a, ha, by simp [firsts]⟩
      | false => rw [m1, m2] at hl; simp at hl
  · rw [if_neg c1] at hl
    by_cases c2 : (ati L ((n + 1 : Nat) : Int)).Exp - (ati L (n : Int)).Exp = 2
    case neg => rw [if_neg c2] at hl; exact absurd hl (by decide)
    rw [if_pos c2] at hl
    refine .inr ⟨c2, ?_⟩
    cases m1 : memS L n with
    | false => rw [m1] at hl; simp at hl
    | true =>
      cases m2 : memS L (n + 1) with
      | false => rw [m1, m2] at hl; simp at hl
      | true =>
        obtain ⟨a, r, ha, ea⟩ := hpt n (by omega) m1
        obtain ⟨b, s, hb, eb⟩ := hpt (n + 1) (by omega) m2
        have hjo : ¬ joiS L (n + 1) = true := by
          unfold joiS
          rw [show n + 1 - 1 = n by omega, wrap_id (by omega) (by omega)]
          intro hd
          have := of_decide_eq_true hd
          omega
        have hne := (same_part hn m1 m2).2 hjo
        rw [ea, eb] at hne ⊢
        have hab : (a : Int) ≠ (b : Int) := hne
        exact ⟨a, b, ha, hb, by omega, by simp [firsts, hab]⟩

theorem odd_st {L : List Constituent} (h : fusedS L) {n : Nat} (hn : n + 1 < L.length) (hl : lkS L ((n + 1 : Nat) : Int) = true) : Int.tmod (odF 0 (stS L ((n + 1 : Nat) : Int))) 8 = Int.tmod (odF 0 L) 8 := by
  have h8 := ordR_len h.1
  have h1 : (1 : Int) ≤ ((n + 1 : Nat) : Int) := by omega
  have h2 : ((n + 1 : Nat) : Int) < (L.length : Int) := by omega
  have hf' := fused_st h h1 h2
  have hO : ∀ c ∈ L, 0 ≤ c.Oddity ∧ c.Oddity ≤ 7 := fun c hc => ⟨(h.2.1 c hc).1, (h.2.1 c hc).2.1⟩
  have hO' : ∀ c ∈ stS L ((n + 1 : Nat) : Int), 0 ≤ c.Oddity ∧ c.Oddity ≤ 7 := fun c hc => ⟨(hf'.2.1 c hc).1, (hf'.2.1 c hc).2.1⟩
  have s1 := odF_sum L (by omega) hO L 0 0 rfl (by omega) rfl (by omega) (by omega)
  have s2 := odF_sum (stS L ((n + 1 : Nat) : Int)) (by rw [stS_len]; omega) hO' (stS L ((n + 1 : Nat) : Int)) 0 0 rfl (by omega) rfl (by omega) (by omega)
  rw [stS_len] at s2
  have hE := ord_exp h.1
  have hodd : ∀ x : Int, 0 ≤ x → Int.tmod x 2 = x % 2 := fun x hx => Int.tmod_eq_emod_of_nonneg hx
  -- what changes in one place
  have hd : ∀ j : Nat, j < L.length → (wt (ati (stS L ((n + 1 : Nat) : Int)) (j : Int)) - wt (ati L (j : Int)) - 4 * ((if (j : Int) ∈ fst2 L ((n + 1 : Nat) : Int) then 1 else 0) + ((if j = n + 1 then (ati L ((n + 1 : Nat) : Int)).Exp % 2 else 0) + (if j = n then (ati L (n : Int)).Exp % 2 else 0)))) % 8 = 0 := by
    intro j hj
    have hsg : signed (ati L (j : Int)) := (ascR_mem (by omega) h.1.1 _ (ati_mem (by omega) (by omega))).2.2.1
    have hoj := hO _ (ati_mem (L := L) (i := (j : Int)) (by omega) (by omega))
    have hej := hE j hj
    rw [ati_st h1 h2 (by omega)]
    unfold wt
    dsimp only
    rw [hodd _ hej.1]
    have q : ∀ x : Int, (x % 2 = 0 ∨ x % 2 = 1) := fun x => by omega
    have hb : (if (j : Int) ∈ fst2 L ((n + 1 : Nat) : Int) then b4 (ati L (j : Int)).Oddity else (ati L (j : Int)).Oddity) = (ati L (j : Int)).Oddity + 4 * (if (j : Int) ∈ fst2 L ((n + 1 : Nat) : Int) then 1 else 0) ∨ (if (j : Int) ∈ fst2 L ((n + 1 : Nat) : Int) then b4 (ati L (j : Int)).Oddity else (ati L (j : Int)).Oddity) = (ati L (j : Int)).Oddity + 4 * (if (j : Int) ∈ fst2 L ((n + 1 : Nat) : Int) then 1 else 0) - 8 := by
      by_cases c : (j : Int) ∈ fst2 L ((n + 1 : Nat) : Int)
      · rw [if_pos c, if_pos c, b4_eq hoj.1 hoj.2]; omega
      · rw [if_neg c, if_neg c]; omega
    generalize (if (j : Int) ∈ fst2 L ((n + 1 : Nat) : Int) then b4 (ati L (j : Int)).Oddity else (ati L (j : Int)).Oddity) = B at hb ⊢
    generalize (if (j : Int) ∈ fst2 L ((n + 1 : Nat) : Int) then (1 : Int) else 0) = I at hb ⊢
    unfold signed at hsg
    by_cases c1 : j = n + 1
    · subst c1
      rw [if_pos (show ((n + 1 : Nat) : Int) = ((n + 1 : Nat) : Int) ∨ ((n + 1 : Nat) : Int) = ((n + 1 : Nat) : Int) - 1 from .inl rfl), if_pos (show n + 1 = n + 1 from rfl), if_neg (show ¬ n + 1 = n by omega), ng_sign hsg]
      rcases q (ati L ((n + 1 : Nat) : Int)).Exp with e | e
      · rw [e, if_neg (by omega), if_neg (by omega)]; omega
      · rw [e, if_pos rfl, if_pos rfl]
        rcases hsg with s | s
        · rw [s, if_pos (by omega), if_neg (by omega)]; omega
        · rw [s, if_neg (by omega), if_pos rfl]; omega
    · by_cases c2 : j = n
      · subst c2
        rw [if_pos (show (j : Int) = ((j + 1 : Nat) : Int) ∨ (j : Int) = ((j + 1 : Nat) : Int) - 1 from .inr (by omega)), if_neg c1, if_pos (show j = j from rfl), ng_sign hsg]
        rcases q (ati L (j : Int)).Exp with e | e
        · rw [e, if_neg (by omega), if_neg (by omega)]; omega
        · rw [e, if_pos rfl, if_pos rfl]
          rcases hsg with s | s
          · rw [s, if_pos (by omega), if_neg (by omega)]; omega
          · rw [s, if_neg (by omega), if_pos rfl]; omega
      · rw [if_neg (show ¬ ((j : Int) = ((n + 1 : Nat) : Int) ∨ (j : Int) = ((n + 1 : Nat) : Int) - 1) by omega), if_neg c1, if_neg c2]
        omega
  have hm := Sm_mod hd
  rw [Sm_add, Sm_add, Sm_pt, Sm_pt, if_pos hn, if_pos (by omega), ← s1, ← s2] at hm
  have p1 : 0 ≤ odF 0 L := by
    rw [s1]
    have : ∀ m, m ≤ L.length → 0 ≤ Sm (fun j => wt (ati L (j : Int))) m := by
      intro m
      induction m with
      | zero => intro _; exact Int.le_refl _
      | succ m ih =>
        intro hm
        have a := ih (by omega)
        have b := hO _ (ati_mem (L := L) (i := (m : Int)) (by omega) (by omega))
        have := wt_nonneg b.1
        show 0 ≤ Sm _ m + wt (ati L (m : Int))
        omega
    exact this _ (Nat.le_refl _)
  have p2 : 0 ≤ odF 0 (stS L ((n + 1 : Nat) : Int)) := by
    rw [s2]
    have : ∀ m, m ≤ L.length → 0 ≤ Sm (fun j => wt (ati (stS L ((n + 1 : Nat) : Int)) (j : Int))) m := by
      intro m
      induction m with
      | zero => intro _; exact Int.le_refl _
      | succ m ih =>
        intro hm
        have a := ih (by omega)
        have b := hO' _ (ati_mem (L := stS L ((n + 1 : Nat) : Int)) (i := (m : Int)) (by omega) (by rw [stS_len]; omega))
        have := wt_nonneg b.1
        show 0 ≤ Sm _ m + wt (ati _ (m : Int))
        omega
    exact this _ (Nat.le_refl _)
  rw [Int.tmod_eq_emod_of_nonneg p1, Int.tmod_eq_emod_of_nonneg p2]
  have x1 := hE (n + 1) hn
  have x2 := hE n (by omega)
  have eA : ∀ a : Nat, (fun j : Nat => if (j : Int) ∈ [(a : Int)] then (1 : Int) else 0) = fun j => if j = a then 1 else 0 := fun a => funext fun j => by
    by_cases c : j = a
    · rw [if_pos (by simp [c]), if_pos c]
    · rw [if_neg (by simp; omega), if_neg c]
  rcases fst2_len h.1 hn hl with ⟨d, a, ha, e⟩ | ⟨d, a, b, ha, hb, hab, e⟩
  · rw [e, eA a, Sm_pt, if_pos ha] at hm
    omega
  · have eB : (fun j : Nat => if (j : Int) ∈ [(a : Int), (b : Int)] then (1 : Int) else 0) = fun j => (if j = a then 1 else 0) + (if j = b then 1 else 0) := funext fun j => by
      by_cases c : j = a
      · rw [if_pos (by simp [c]), if_pos c, if_neg (by omega)]; rfl
      · by_cases c' : j = b
        · rw [if_pos (by simp [c']), if_neg c, if_pos c']; rfl
        · rw [if_neg (by simp; omega), if_neg c, if_neg c']; rfl
    rw [e, eB, Sm_add, Sm_pt, Sm_pt, if_pos ha, if_pos hb] at hm
    omega

end Go.Cn
