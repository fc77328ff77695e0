/- A walk of a sign, place by place; a fused symbol stays fused. -/
import Derived.Test.YtgbijhccgmmkgaaGreatDoorTd2
import Derived.Test.YtgbijhccgmmkgaaGreatDoorTw1
import Derived.Test.YtgbijhccgmmkgaaGreatDoorTv1
set_option linter.unusedVariables false
noncomputable section
open Classical
namespace Go.Cn

theorem ati_setO {L : List Constituent} {a o j : Int} (h0 : 0 ≤ a) (h1 : a < (L.length : Int)) (hj : 0 ≤ j) : ati (setO L a o) j = if j = a then ⟨(ati L j).Exp, (ati L j).Dim, (ati L j).Sign, (ati L j).Odd, o⟩ else ati L j := by
  unfold setO
  by_cases h : j = a
  · subst h; rw [if_pos rfl, ati_set_eq (by omega)]
  · rw [if_neg h, ati_set_ne (by omega)]
theorem ati_setSg {L : List Constituent} {a o j : Int} (h0 : 0 ≤ a) (h1 : a < (L.length : Int)) (hj : 0 ≤ j) : ati (setSg L a o) j = if j = a then ⟨(ati L j).Exp, (ati L j).Dim, o, (ati L j).Odd, (ati L j).Oddity⟩ else ati L j := by
  unfold setSg
  by_cases h : j = a
  · subst h; rw [if_pos rfl, ati_set_eq (by omega)]
  · rw [if_neg h, ati_set_ne (by omega)]
def b4 (x : Int) : Int := Int.tmod (IntKind.wrap .i64 (x + 4)) 8
def bump (c : Constituent) : Constituent := ⟨c.Exp, c.Dim, c.Sign, c.Odd, b4 c.Oddity⟩
theorem b4_eq {x : Int} (h0 : 0 ≤ x) (h1 : x ≤ 7) : b4 x = (x + 4) % 8 := by
  unfold b4
  rw [wrap_id (by omega) (by omega), Int.tmod_eq_emod_of_nonneg (by omega)]
theorem ati_add4 {L : List Constituent} {a j : Int} (h0 : 0 ≤ a) (h1 : a < (L.length : Int)) (hj : 0 ≤ j) : ati (add4 L a) j = if j = a then bump (ati L j) else ati L j := by
  unfold add4
  rw [ati_setO h0 h1 hj]
  by_cases h : j = a
  · subst h; rw [if_pos rfl, if_pos rfl]; rfl
  · rw [if_neg h, if_neg h]
theorem ati_add4F {j : Int} (hj : 0 ≤ j) : ∀ (A : List Int) (L : List Constituent), A.Nodup → inR L.length A → ati (add4F L A) j = if j ∈ A then bump (ati L j) else ati L j := by
  intro A
  induction A with
  | nil => intro L _ _; rw [if_neg (by simp)]; rfl
  | cons a r ih =>
    intro L hn hin
    have ha := hin a (by simp)
    obtain ⟨n1, n2⟩ := List.nodup_cons.1 hn
    show ati (add4F (add4 L a) r) j = _
    rw [ih (add4 L a) n2 (by rw [add4_len]; exact fun x hx => hin x (by simp [hx])), ati_add4 ha.1 ha.2 hj]
    by_cases h : j = a
    · subst h; rw [if_neg n1, if_pos rfl, if_pos (by simp)]
    · rw [if_neg h]
      by_cases hr : j ∈ r
      · rw [if_pos hr, if_pos (by simp [hr])]
      · rw [if_neg hr, if_neg (by simp [h, hr])]
theorem firsts_nodup (p q : List Int) : (firsts p q).Nodup := by
  unfold firsts
  cases p with
  | nil => cases q <;> simp
  | cons a r =>
    cases q with
    | nil => simp
    | cons b s =>
      dsimp only
      by_cases h : a = b
      · rw [if_pos h]; simp
      · rw [if_neg h]; simp [h]

def fst2 (L : List Constituent) (i : Int) : List Int := firsts (ptS (partsS L) (i - 1)) (ptS (partsS L) i)
def ng (x : Int) : Int := IntKind.wrap .i64 (0 - x)
theorem ati_st {L : List Constituent} {i : Int} (h1 : 1 ≤ i) (h2 : i < (L.length : Int)) {j : Int} (hj : 0 ≤ j) : ati (stS L i) j = ⟨(ati L j).Exp, (ati L j).Dim, if j = i ∨ j = i - 1 then ng (ati L j).Sign else (ati L j).Sign, (ati L j).Odd, if j ∈ fst2 L i then b4 (ati L j).Oddity else (ati L j).Oddity⟩ := by
  obtain ⟨f1, f2⟩ := firsts_ok (L := L) (i - 1) i
  rw [stS_firsts, ati_add4F hj _ _ (firsts_nodup _ _) (by rw [setSg_len, setSg_len]; exact f1), ati_setSg (by omega) (by rw [setSg_len]; omega) hj, ati_setSg (by omega) h2 hj]
  show (if j ∈ fst2 L i then _ else _) = _
  by_cases e1 : j = i - 1
  · have e2 : ¬ j = i := by omega
    rw [if_pos e1, if_neg e2, if_pos (Or.inr e1), ← e1]
    by_cases hA : j ∈ fst2 L i
    · rw [if_pos hA, if_pos hA]; rfl
    · rw [if_neg hA, if_neg hA]; rfl
  · rw [if_neg e1]
    by_cases e2 : j = i
    · rw [if_pos e2, if_pos (Or.inl e2), e2]
      by_cases hA : i ∈ fst2 L i
      · rw [if_pos hA, if_pos hA]; rfl
      · rw [if_neg hA, if_neg hA]; rfl
    · have e3 : ¬ (j = i ∨ j = i - 1) := fun h => h.elim e2 e1
      rw [if_neg e2, if_neg e3]
      by_cases hA : j ∈ fst2 L i
      · rw [if_pos hA, if_pos hA]; rfl
      · rw [if_neg hA, if_neg hA]

/-! ### the same shape -/
structure Shp (L M : List Constituent) : Prop where
  len : M.length = L.length
  exp : ∀ j : Int, 0 ≤ j → (ati M j).Exp = (ati L j).Exp
  dim : ∀ j : Int, 0 ≤ j → (ati M j).Dim = (ati L j).Dim
  odd : ∀ j : Int, 0 ≤ j → (ati M j).Odd = (ati L j).Odd
theorem shp_st {L : List Constituent} {i : Int} (h1 : 1 ≤ i) (h2 : i < (L.length : Int)) : Shp L (stS L i) :=
  ⟨stS_len L i, fun j hj => by rw [ati_st h1 h2 hj], fun j hj => by rw [ati_st h1 h2 hj], fun j hj => by rw [ati_st h1 h2 hj]⟩
theorem shp_parts {L M : List Constituent} (h : Shp L M) : partsS M = partsS L := by
  have e1 : memS M = memS L := funext fun n => h.odd n (by omega)
  have e2 : joiS M = joiS L := funext fun n => by unfold joiS; rw [h.exp _ (by omega), h.exp _ (by omega)]
  unfold partsS
  rw [e1, e2, h.len]
theorem shp_dimF {L M : List Constituent} (h : Shp L M) : ∀ (p : List Int) (s : Int), (∀ i ∈ p, 0 ≤ i) → dimF M s p = dimF L s p
  | [], s, _ => rfl
  | i :: r, s, hp => by
    show dimF M _ r = dimF L _ r
    rw [h.dim i (hp i (by simp)), shp_dimF h r _ (fun x hx => hp x (by simp [hx]))]
theorem ext_ati {L M : List Constituent} (hl : M.length = L.length) (h : ∀ n : Nat, n < L.length → ati M (n : Int) = ati L (n : Int)) : M = L := by
  refine List.ext_getElem hl fun n h1 h2 => ?_
  have := h n h2
  rwa [ati_nat h1, ati_nat h2] at this
theorem asc_ext : ∀ {L M : List Constituent} {e s : Int}, M.length = L.length → (∀ n : Nat, n < L.length → (ati M (n : Int)).Exp = (ati L (n : Int)).Exp ∧ (ati M (n : Int)).Dim = (ati L (n : Int)).Dim ∧ (signed (ati L (n : Int)) → signed (ati M (n : Int)))) → ascR e s L → ascR e s M ∧ dims M = dims L
  | [], [], e, s, _, _, _ => ⟨trivial, rfl⟩
  | [], c :: M, e, s, h, _, _ => by simp at h
  | c :: L, [], e, s, h, _, _ => by simp at h
  | c :: L, d :: M, e, s, hl, h, ha => by
    obtain ⟨a1, a2, a3⟩ := h 0 (by simp)
    have hc : ati (c :: L) ((0 : Nat) : Int) = c := rfl
    have hd : ati (d :: M) ((0 : Nat) : Int) = d := rfl
    rw [hc, hd] at a1 a2 a3
    have sh : ∀ (x : Constituent) (R : List Constituent) (n : Nat), ati (x :: R) ((n + 1 : Nat) : Int) = ati R (n : Int) := fun x R n => by
      unfold ati; rw [Int.toNat_natCast, Int.toNat_natCast, List.getD_cons_succ]
    simp only [ascR, dims] at ha ⊢
    obtain ⟨k1, k2⟩ := asc_ext (L := L) (M := M) (e := c.Exp) (s := s + c.Dim) (by simpa using hl) (fun n hn => by
      have := h (n + 1) (by simp; omega)
      rwa [sh, sh] at this) ha.2.2.2.2.2
    rw [a1, a2]
    exact ⟨⟨ha.1, ha.2.1, a3 ha.2.2.1, ha.2.2.2.1, ha.2.2.2.2.1, k1⟩, by rw [k2]⟩

/-! ### first places of parts -/
theorem part_shape {L : List Constituent} {p : List Int} (hp : p ∈ partsS L) : ∃ a m, p = iv a (m + 1) ∧ a + m < L.length := by
  obtain ⟨a, m, e, _, h⟩ := chn_mem (runs_chn (memS L) (joiS L) L.length) p hp
  exact ⟨a, m, e, by omega⟩
theorem iv_tail (a m : Nat) : (iv a (m + 1)).tail = iv (a + 1) m := by
  unfold iv
  rw [show List.range' a (m + 1) = a :: List.range' (a + 1) m from rfl]
  rfl
/-- a place inside a part's tail is no part's first -/
theorem tail_first {L : List Constituent} {p q : List Int} (hp : p ∈ partsS L) (hq : q ∈ partsS L) {i : Int} (hi : i ∈ p.tail) : q.getD 0 0 ≠ i := by
  intro e
  obtain ⟨a, m, ep, _⟩ := part_shape hp
  obtain ⟨b, w, eq, _⟩ := part_shape hq
  have hiq : i ∈ q := by rw [← e, eq, iv_head, mem_iv]; omega
  have h1 := (part_is hp (List.mem_of_mem_tail hi)).1
  have h2 := (part_is hq hiq).1
  rw [h1] at h2
  subst h2
  rw [ep, iv_tail, mem_iv] at hi
  rw [ep, iv_head] at e
  omega
theorem pt_mem {L : List Constituent} {i : Int} (h : ptS (partsS L) i ≠ []) : ptS (partsS L) i ∈ partsS L ∧ i ∈ ptS (partsS L) i := by
  unfold ptS at h ⊢
  cases hf : (partsS L).find? (fun p => p.contains i) with
  | none => rw [hf] at h; exact absurd rfl h
  | some p =>
    have h1 := List.find?_some hf
    exact ⟨List.mem_of_find?_eq_some hf, by rw [← List.contains_iff_mem]; exact h1⟩
theorem firsts_mem {p q : List Int} {a : Int} (h : a ∈ firsts p q) : (p ≠ [] ∧ p.getD 0 0 = a) ∨ (q ≠ [] ∧ q.getD 0 0 = a) := by
  unfold firsts at h
  cases p with
  | nil =>
    cases q with
    | nil => simp at h
    | cons b s => simp at h; exact .inr ⟨by simp, h.symm⟩
  | cons x r =>
    cases q with
    | nil => simp at h; exact .inl ⟨by simp, h.symm⟩
    | cons b s =>
      dsimp only at h
      by_cases hx : x = b
      · rw [if_pos hx] at h; simp at h; exact .inl ⟨by simp, h.symm⟩
      · rw [if_neg hx] at h; simp at h
        rcases h with h | h
        · exact .inl ⟨by simp, h.symm⟩
        · exact .inr ⟨by simp, h.symm⟩
theorem fst2_mem {L : List Constituent} {i a : Int} (h : a ∈ fst2 L i) : ∃ p ∈ partsS L, p.getD 0 0 = a ∧ a ∈ p := by
  have fin : ∀ p ∈ partsS L, p.getD 0 0 = a → a ∈ p := fun p hp e => by
    obtain ⟨b, w, eq, _⟩ := part_shape hp
    rw [← e, eq, iv_head, mem_iv]; omega
  rcases firsts_mem h with ⟨h1, h2⟩ | ⟨h1, h2⟩
  · exact ⟨_, (pt_mem h1).1, h2, fin _ (pt_mem h1).1 h2⟩
  · exact ⟨_, (pt_mem h1).1, h2, fin _ (pt_mem h1).1 h2⟩

/-! ### a walk keeps a fused symbol fused, and walks back -/
theorem ng_sign {x : Int} (h : x = 1 ∨ x = -1) : ng x = -x := by
  unfold ng; rw [wrap_id (by omega) (by omega)]; omega
theorem fused_st {L : List Constituent} {i : Int} (h : fusedS L) (h1 : 1 ≤ i) (h2 : i < (L.length : Int)) : fusedS (stS L i) := by
  obtain ⟨g1, g2, g3, g4⟩ := h
  have hs := shp_st h1 h2
  have hsg : ∀ n : Nat, n < L.length → signed (ati L (n : Int)) := fun n hn => (ascR_mem (by omega) g1.1 _ (ati_mem (by omega) (by omega))).2.2.1
  obtain ⟨a1, a2⟩ := asc_ext (M := stS L i) (stS_len L i) (fun n hn => ⟨hs.exp n (by omega), hs.dim n (by omega), fun s => by
    rw [ati_st h1 h2 (by omega)]
    unfold signed at s ⊢
    dsimp only
    have := ng_sign s
    split <;> omega⟩) g1.1
  have hf : ∀ j : Int, 0 ≤ j → j < (L.length : Int) → f1 (ati L j) := fun j x y => g2 _ (ati_mem x y)
  have ho : ∀ j : Int, 0 ≤ j → (ati (stS L i) j).Oddity = if j ∈ fst2 L i then b4 (ati L j).Oddity else (ati L j).Oddity := fun j hj => by rw [ati_st h1 h2 hj]
  refine ⟨⟨a1, by rw [a2]; exact g1.2⟩, fun c hc => ?_, ?_, ?_⟩
  · obtain ⟨n, hn, rfl⟩ := List.mem_iff_getElem.1 hc
    rw [← ati_nat hn]
    rw [stS_len] at hn
    obtain ⟨k1, k2, k3⟩ := hf n (by omega) (by omega)
    unfold f1
    rw [ho n (by omega), hs.odd n (by omega), hs.dim n (by omega)]
    by_cases hA : (n : Int) ∈ fst2 L i
    · rw [if_pos hA, b4_eq k1 k2]
      refine ⟨by omega, by omega, fun ho' => ?_⟩
      obtain ⟨p, hp, _, hm⟩ := fst2_mem hA
      have := (part_is hp hm).2
      rw [Int.toNat_natCast] at this
      have t : (ati L (n : Int)).Odd = true := this
      rw [t] at ho'; exact absurd ho' (by decide)
    · rw [if_neg hA]; exact ⟨k1, k2, k3⟩
  · rw [shp_parts hs]
    intro p hp j hj
    obtain ⟨a, m, ep, hb⟩ := part_shape hp
    have hj' := hj
    rw [ep, iv_tail, mem_iv] at hj'
    rw [ho j (by omega), if_neg (fun hA => by
      obtain ⟨q, hq, e, _⟩ := fst2_mem hA
      exact tail_first hp hq hj e)]
    exact g3 p hp j hj
  · rw [shp_parts hs]
    intro p hp
    obtain ⟨a, m, ep, hb⟩ := part_shape hp
    have := g4 p hp
    unfold fpar at this ⊢
    rw [shp_dimF hs p 0 (fun x hx => by rw [ep, mem_iv] at hx; omega), ho _ (by rw [ep, iv_head]; omega)]
    have hh : p.getD 0 0 = (a : Int) := by rw [ep, iv_head]
    rw [hh] at this ⊢
    obtain ⟨k1, k2, _⟩ := hf a (by omega) (by omega)
    split
    · rw [b4_eq k1 k2]; omega
    · exact this

/-- the total of a part of a fused symbol -/
theorem totF_zero (L : List Constituent) : ∀ (r : List Int) (s : Int), 0 ≤ s → s ≤ 7 → (∀ i ∈ r, (ati L i).Oddity = 0) → totF L s r = s
  | [], s, _, _, _ => rfl
  | i :: r, s, h0, h1, h => by
    show totF L _ r = _
    rw [h i (by simp), Int.add_zero, wrap_id (by omega) (by omega)]
    exact totF_zero L r s h0 h1 (fun x hx => h x (by simp [hx]))
theorem tot_fused {L : List Constituent} (h : fusedS L) {p : List Int} (hp : p ∈ partsS L) : totS L p = (ati L (p.getD 0 0)).Oddity := by
  obtain ⟨g1, g2, g3, g4⟩ := h
  obtain ⟨a, m, ep, hb⟩ := part_shape hp
  have ht := g3 p hp
  have hh : p.getD 0 0 = (a : Int) := by rw [ep, iv_head]
  have hc : p = (a : Int) :: p.tail := by rw [ep]; rfl
  obtain ⟨k1, k2, _⟩ := g2 _ (ati_mem (L := L) (i := (a : Int)) (by omega) (by omega))
  rw [hh]
  unfold totS
  rw [hc]
  show Int.tmod (totF L (IntKind.wrap .i64 (0 + (ati L (a : Int)).Oddity)) p.tail) 8 = _
  rw [Int.zero_add, wrap_id (by omega) (by omega), totF_zero L _ _ k1 k2 ht, Int.tmod_eq_emod_of_nonneg k1]
  omega
theorem bad_st {L : List Constituent} {i : Int} (h : fusedS L) (h1 : 1 ≤ i) (h2 : i < (L.length : Int)) (j : Int) : badS (stS L i) (ptS (partsS L) j) = badS L (ptS (partsS L) j) := by
  by_cases he : ptS (partsS L) j = []
  · rw [he]; unfold badS; simp
  obtain ⟨hp, _⟩ := pt_mem he
  have hs := shp_st h1 h2
  have hp' : ptS (partsS L) j ∈ partsS (stS L i) := by rw [shp_parts hs]; exact hp
  obtain ⟨a, m, ep, hb⟩ := part_shape hp
  have hh : (ptS (partsS L) j).getD 0 0 = (a : Int) := by rw [ep, iv_head]
  have hh1 : 0 ≤ (ptS (partsS L) j).getD 1 0 := by
    rw [ep]
    cases m with
    | zero => show (0 : Int) ≤ 0; omega
    | succ m => show (0 : Int) ≤ Int.ofNat (a + 1); exact Int.natCast_nonneg _
  have t1 := tot_fused h hp
  have t2 := tot_fused (fused_st h h1 h2) hp'
  obtain ⟨k1, k2, _⟩ := h.2.1 _ (ati_mem (L := L) (i := (a : Int)) (by omega) (by omega))
  have t3 : Int.tmod (totS (stS L i) (ptS (partsS L) j)) 4 = 0 ↔ Int.tmod (totS L (ptS (partsS L) j)) 4 = 0 := by
    rw [t1, t2, hh, ati_st h1 h2 (by omega)]
    dsimp only
    split
    · rw [b4_eq k1 k2, Int.tmod_eq_emod_of_nonneg (by omega), Int.tmod_eq_emod_of_nonneg k1]; omega
    · exact Iff.rfl
  unfold badS
  rw [hs.dim _ (by rw [hh]; omega), hs.dim _ hh1]
  simp only [t3]
theorem lk_st {L : List Constituent} {i : Int} (h : fusedS L) (h1 : 1 ≤ i) (h2 : i < (L.length : Int)) {j : Int} (hj : 1 ≤ j) : lkS (stS L i) j = lkS L j := by
  have hs := shp_st h1 h2
  unfold lkS
  rw [shp_parts hs, bad_st h h1 h2, hs.exp j (by omega), hs.exp (j - 1) (by omega), hs.odd j (by omega), hs.odd (j - 1) (by omega)]

theorem st_st {L : List Constituent} {i : Int} (h : fusedS L) (h1 : 1 ≤ i) (h2 : i < (L.length : Int)) : stS (stS L i) i = L := by
  have hs := shp_st h1 h2
  have hl := stS_len L i
  refine ext_ati (by rw [stS_len, stS_len]) fun n hn => ?_
  have hA : fst2 (stS L i) i = fst2 L i := by unfold fst2; rw [shp_parts hs]
  rw [ati_st h1 (by omega) (by omega), hA, ati_st h1 h2 (by omega)]
  have hsg : signed (ati L (n : Int)) := (ascR_mem (by omega) h.1.1 _ (ati_mem (by omega) (by omega))).2.2.1
  obtain ⟨k1, k2, _⟩ := h.2.1 _ (ati_mem (L := L) (i := (n : Int)) (by omega) (by omega))
  have e1 : (if (n : Int) = i ∨ (n : Int) = i - 1 then ng (if (n : Int) = i ∨ (n : Int) = i - 1 then ng (ati L (n : Int)).Sign else (ati L (n : Int)).Sign) else (if (n : Int) = i ∨ (n : Int) = i - 1 then ng (ati L (n : Int)).Sign else (ati L (n : Int)).Sign)) = (ati L (n : Int)).Sign := by
    by_cases c : (n : Int) = i ∨ (n : Int) = i - 1
    · rw [if_pos c, if_pos c]
      unfold signed at hsg
      rw [ng_sign hsg, ng_sign (by omega)]; omega
    · rw [if_neg c, if_neg c]
  have e2 : (if (n : Int) ∈ fst2 L i then b4 (if (n : Int) ∈ fst2 L i then b4 (ati L (n : Int)).Oddity else (ati L (n : Int)).Oddity) else (if (n : Int) ∈ fst2 L i then b4 (ati L (n : Int)).Oddity else (ati L (n : Int)).Oddity)) = (ati L (n : Int)).Oddity := by
    by_cases c : (n : Int) ∈ fst2 L i
    · rw [if_pos c, if_pos c, b4_eq k1 k2, b4_eq (by omega) (by omega)]; omega
    · rw [if_neg c, if_neg c]
  dsimp only
  rw [e1, e2]

end Go.Cn
