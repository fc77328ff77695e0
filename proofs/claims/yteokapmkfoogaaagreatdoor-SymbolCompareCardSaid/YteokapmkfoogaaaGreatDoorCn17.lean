/- The canonical calculus, part 17: whatever order is drawn, the region comes to its canonical end. -/
import Derived.Test.YteokapmkfoogaaaGreatDoorCn16
set_option linter.unusedVariables false
set_option linter.unusedSimpArgs false
noncomputable section
namespace Go.Cn

section
variable {P : Program} {call : Call} {N lo : Nat} {ops : Array Oper} {D : Nat → DS} {K : Nat → Nat}

def Lst (l : Array Bool) (j : Nat) : Prop := l.getD j false = true

theorem lst_set {l : Array Bool} {i j : Nat} (hi : i < l.size) : Lst (l.setIfInBounds i true) j ↔ j = i ∨ Lst l j := by
  unfold Lst
  simp only [Array.getD_eq_getD_getElem?]
  by_cases e : i = j
  · subst e; simp [hi]
  · rw [Array.getElem?_setIfInBounds_ne e]
    constructor
    · exact .inr
    · rintro (rfl | h)
      · exact absurd rfl e
      · exact h

theorem lst_lt {l : Array Bool} {j : Nat} (h : Lst l j) : j < l.size := by
  rcases Nat.lt_or_ge j l.size with h' | h'
  · exact h'
  · unfold Lst at h
    rw [Array.getD_eq_getD_getElem?, Array.getElem?_eq_none h'] at h
    simp at h

theorem not_lst {l : Array Bool} {j : Nat} (hj : j < l.size) : l.getD j true = true ↔ Lst l j := by
  unfold Lst
  simp [Array.getD_eq_getD_getElem?, hj]

theorem tmpOk_spec (h : tmpOk ops.toList ops (bits ops) = true) {i d : Nat} {oi od : Oper} {t : Nat} (hi : ops[i]? = some oi) (hd : ops[d]? = some od) (hne : i ≠ d) (ht : t ∈ oi.dst.toList ++ looks ops oi) (hdt : od.dst = some t) :
    (bm ops (max i d)).testBit (min i d) = true := by
  obtain ⟨_, _, g3, g4⟩ := tmpGo_spec ops.toList _ 0 [] [] h
  simp only [Nat.zero_add] at g3 g4
  rcases Nat.lt_or_ge i d with hlt | hge
  · rw [Nat.max_eq_right (by omega), Nat.min_eq_left (by omega)]
    exact g4 i d oi od t hlt (by simpa using hi) (by simpa using hd) hdt ht
  · rw [Nat.max_eq_left (by omega), Nat.min_eq_right (by omega)]
    exact g3 d i od oi t (by omega) (by simpa using hd) (by simpa using hi) hdt ht

theorem edgesOk_spec (h : edgesOk ops = true) {i : Nat} {o : Oper} (hi : ops[i]? = some o) {e : Edge} (he : e ∈ o.after.toList) (hb : Region.binds .any e = true) : e.on < i := by
  have := edgesGo_spec ops.toList 0 h i o (by simpa using hi) e he hb
  omega

theorem ready_spec {l : Array Bool} (hl : l.size = ops.size) {i : Nat} : i ∈ Region.ready .any ops l ↔ i < ops.size ∧ ¬ Lst l i ∧ ∃ o, ops[i]? = some o ∧ ∀ e ∈ o.after.toList, Region.binds .any e = true → Lst l e.on := by
  unfold Region.ready
  rw [List.mem_filter]
  simp only [List.mem_range, Bool.and_eq_true, Bool.not_eq_true']
  constructor
  · rintro ⟨h1, h2, h3⟩
    refine ⟨h1, fun h => ?_, ?_⟩
    · rw [(not_lst (by omega)).2 h] at h2; simp at h2
    · obtain ⟨o, ho⟩ : ∃ o, ops[i]? = some o := ⟨_, Array.getElem?_eq_getElem h1⟩
      refine ⟨o, ho, fun e he hb => ?_⟩
      rw [ho] at h3
      simp only [Option.map_some, Option.getD_some] at h3
      rw [Array.all_eq_true_iff_forall_mem] at h3
      have := h3 e (by simpa using he)
      simpa [hb, Lst] using this
  · rintro ⟨h1, h2, o, ho, h3⟩
    refine ⟨h1, ?_, ?_⟩
    · cases hg : l.getD i true with
      | false => rfl
      | true => exact absurd ((not_lst (by omega)).1 hg) h2
    · rw [ho]
      simp only [Option.map_some, Option.getD_some]
      rw [Array.all_eq_true_iff_forall_mem]
      intro e he
      cases hb : Region.binds .any e with
      | false => simp
      | true => simpa [Lst] using h3 e (by simpa using he) hb

/-- what does not look at the memory -/
structure InvA (N : Nat) (ops : Array Oper) (D : Nat → DS) (E0 : Env) (l : Array Bool) (E : Env) (a : Act) : Prop where
  lsz : l.size = ops.size
  closed : ∀ i, Lst l i → ∀ j, (bm ops i).testBit j = true → Lst l j
  ex : Ex E0 E
  ub : ∀ k, E.U k → E0.U k ∨ ∃ i, Lst l i ∧ (D i).n ≤ k ∧ k < (D (i + 1)).n
  tmps : ∀ t k, k ≤ ops.size → (∀ j o, j < k → ops[j]? = some o → o.dst = some t → Lst l j) → (∀ j o, Lst l j → ops[j]? = some o → o.dst = some t → j < k) →
    ∀ x, tget (D k).tm t = some x → VR E x (a.tmps.getD t undef)
  size : a.tmps.size = N
  defers : a.defers = []

/-- what does -/
structure InvH (ops : Array Oper) (D : Nat → DS) (K : Nat → Nat) (l : Array Bool) (E : Env) (p : Nat) : Prop where
  p_le : p ≤ ops.size
  louds : ∀ j, j < ops.size → K j = 2 → (Lst l j ↔ j < p)
  pl : p = 0 ∨ K (p - 1) = 2
  quiets : ∀ j, j < p → K j = 1 → Lst l j
  base : Base E
  goodB : ∀ b blk, hget (D p).B b = some blk → Good E b blk
  goodF : ∀ j, p ≤ j → Lst l j → K j = 1 → ∀ b blk, hget (piece D j) b = some blk → Good E b blk

theorem preds_in {E0 E : Env} {l : Array Bool} {a : Act} (hA : InvA N ops D E0 l E a) {i : Nat} {o : Oper} (ho : ops[i]? = some o) (hp : ∀ e ∈ o.after.toList, Region.binds .any e = true → Lst l e.on) {j : Nat}
    (hj : (bm ops i).testBit j = true) : Lst l j := by
  obtain ⟨e, he, hb, h | ⟨_, h⟩⟩ := before_bits ho hj
  · rw [h]; exact hp e he hb
  · exact hA.closed _ (hp e he hb) j h

/-- the temporaries that an operation looks at -/
theorem looks_tr {E0 E : Env} {l : Array Bool} {a : Act} (hT : Trace P N lo ops D K) (hok : tmpOk ops.toList ops (bits ops) = true) (hA : InvA N ops D E0 l E a) {i : Nat} {o : Oper} (hi : i < ops.size) (hn : ¬ Lst l i) (ho : ops[i]? = some o)
    (hp : ∀ j, (bm ops i).testBit j = true → Lst l j) : TR E (selT (D i).tm (looks ops o)) a := by
  have key : ∀ t ∈ looks ops o, ∀ x, tget (D i).tm t = some x → VR E x (a.tmps.getD t undef) := by
    intro t ht x hx
    refine hA.tmps t i (by omega) (fun j oj hj hoj hd => ?_) (fun j oj hj hoj hd => ?_) x hx
    · have := tmpOk_spec hok ho hoj (by omega) (by simp [ht]) hd
      rw [Nat.max_eq_left (by omega), Nat.min_eq_right (by omega)] at this
      exact hp j this
    · have hne : i ≠ j := fun e => hn (e ▸ hj)
      rcases Nat.lt_or_ge j i with h | h
      · exact h
      · have := tmpOk_spec hok ho hoj hne (by simp [ht]) hd
        rw [Nat.max_eq_right (by omega), Nat.min_eq_left (by omega)] at this
        exact absurd (hA.closed j hj i this) hn
  have gen : ∀ (ts : List Nat), (∀ t ∈ ts, ∀ x, tget (D i).tm t = some x → VR E x (a.tmps.getD t undef)) → TR E (selT (D i).tm ts) a := by
    intro ts
    induction ts with
    | nil => intro _ t x hx; simp [selT, tget_nil, tget_cons] at hx
    | cons t0 ts ih =>
      intro h t x hx
      simp only [selT] at hx
      split at hx
      · next y hy =>
        simp only [tget_nil, tget_cons] at hx
        by_cases e : t0 = t
        · subst e; simp at hx; subst hx; exact h t0 (by simp) y hy
        · simp [e] at hx; exact ih (fun t ht => h t (by simp [ht])) t x hx
      · exact ih (fun t ht => h t (by simp [ht])) t x hx
  exact gen _ key

theorem inv_a_step {E0 E E2 : Env} {l : Array Bool} {a : Act} (hT : Trace P N lo ops D K) (hok : tmpOk ops.toList ops (bits ops) = true) (hA : InvA N ops D E0 l E a) {i : Nat} {o : Oper} (hi : i < ops.size) (hn : ¬ Lst l i)
    (ho : ops[i]? = some o) (hp : ∀ j, (bm ops i).testBit j = true → Lst l j) (hex : Ex E E2) (hub : UB E E2 (D i).n (D (i + 1)).n) (hsm : isSmall N o.dst = true) {x : CV} {v : Value} (htm : (D (i + 1)).tm = cput (D i).tm o.dst x) (hv : VR E2 x v) :
    InvA N ops D E0 (l.setIfInBounds i true) E2 (a.put o.dst v) where
  lsz := by simpa using hA.lsz
  closed k hk j hj := by
    have hil : i < l.size := by rw [hA.lsz]; exact hi
    rw [lst_set hil] at hk ⊢
    rcases hk with rfl | hk
    · exact .inr (hp j hj)
    · exact .inr (hA.closed k hk j hj)
  ex := hA.ex.trans hex
  ub k hk := by
    have hil : i < l.size := by rw [hA.lsz]; exact hi
    rcases hub k hk with h | h
    · rcases hA.ub k h with h | ⟨j, hj, h⟩
      · exact .inl h
      · exact .inr ⟨j, (lst_set hil).2 (.inr hj), h⟩
    · exact .inr ⟨i, (lst_set hil).2 (.inl rfl), h⟩
  tmps t k hk h1 h2 y hy := by
    have hil : i < l.size := by rw [hA.lsz]; exact hi
    by_cases hd : o.dst = some t
    · have hik : i < k := h2 i o ((lst_set hil).2 (.inl rfl)) ho hd
      have hsame : tget (D k).tm t = tget (D (i + 1)).tm t := by
        refine hT.tm_same (by omega) hk fun j oj hj1 hj2 hoj hdj => ?_
        have hjl := (lst_set hil).1 (h1 j oj hj2 hoj hdj)
        have hjl : Lst l j := hjl.resolve_left (by omega)
        have := tmpOk_spec hok ho hoj (by omega) (by simp [hd]) hdj
        rw [Nat.max_eq_right (by omega), Nat.min_eq_left (by omega)] at this
        exact hn (hA.closed j hjl i this)
      rw [hsame, htm, hd] at hy
      simp [cput, tget_nil, tget_cons] at hy
      subst hy
      have hlt : t < a.tmps.size := by
        rw [hA.size]
        simpa [isSmall, hd, Nat.blt_eq] using hsm
      rw [hd, put_getD hlt, if_pos rfl]
      exact hv
    · have hget : (a.put o.dst v).tmps.getD t undef = a.tmps.getD t undef := by
        cases hdd : o.dst with
        | none => rfl
        | some d =>
          have hne : d ≠ t := fun e => hd (by rw [hdd, e])
          have hlt : d < a.tmps.size := by
            rw [hA.size]
            simpa [isSmall, hdd, Nat.blt_eq] using hsm
          rw [put_getD hlt, if_neg hne]
      rw [hget]
      refine (hA.tmps t k hk (fun j oj hj hoj hdj => ?_) (fun j oj hj hoj hdj => h2 j oj ((lst_set hil).2 (.inr hj)) hoj hdj) y hy).mono hex
      rcases (lst_set hil).1 (h1 j oj hj hoj hdj) with rfl | h
      · rw [ho] at hoj; cases hoj; exact absurd hdj hd
      · exact h
  size := by rw [put_size]; exact hA.size
  defers := by rw [put_defers]; exact hA.defers

/-- whatever is quiet leaves the phase as it is -/
theorem inv_h_same {E E2 : Env} {l : Array Bool} {p : Nat} (hH : InvH ops D K l E p) {i : Nat} (hil : i < l.size) (hk2 : K i ≠ 2) (hb : Base E2) (hgB : ∀ b blk, hget (D p).B b = some blk → Good E2 b blk)
    (hgF : ∀ j, p ≤ j → (j = i ∨ Lst l j) → K j = 1 → ∀ b blk, hget (piece D j) b = some blk → Good E2 b blk) : InvH ops D K (l.setIfInBounds i true) E2 p where
  p_le := hH.p_le
  louds j hj hk := by
    rw [lst_set hil, ← hH.louds j hj hk]
    constructor
    · rintro (rfl | h)
      · exact absurd hk hk2
      · exact h
    · exact .inr
  pl := hH.pl
  quiets j hj hk := (lst_set hil).2 (.inr (hH.quiets j hj hk))
  base := hb
  goodB := hgB
  goodF j hj hl hk := hgF j hj ((lst_set hil).1 hl) hk

theorem count_lt {p q : Nat → Bool} : ∀ (l : List Nat), (∀ x, q x = true → p x = true) → (∃ x ∈ l, p x = true ∧ q x = false) → l.countP q < l.countP p
  | [], _, h => by obtain ⟨x, hx, _⟩ := h; simp at hx
  | y :: l, hpq, h => by
    obtain ⟨x, hx, hp, hq⟩ := h
    have hle : l.countP q ≤ l.countP p := List.countP_mono_left fun x _ h => hpq x h
    simp only [List.countP_cons]
    rcases List.mem_cons.1 hx with rfl | hx
    · rw [hp, hq]; simp; omega
    · have := count_lt l hpq ⟨x, hx, hp, hq⟩
      cases hqy : q y with
      | false => cases hpy : p y <;> simp <;> omega
      | true => rw [hpq y hqy]; simp; omega

end
end Go.Cn
