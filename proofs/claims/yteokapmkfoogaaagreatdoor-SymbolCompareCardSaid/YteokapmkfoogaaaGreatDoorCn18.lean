/- The canonical calculus, part 18: a region whose order Go leaves open comes to its canonical end. -/
import Derived.Test.YteokapmkfoogaaaGreatDoorCn17
set_option linter.unusedVariables false
set_option linter.unusedSimpArgs false
noncomputable section
namespace Go.Cn

section
variable {P : Program} {call : Call} {N lo : Nat} {ops : Array Oper} {D : Nat → DS} {K : Nat → Nat}

theorem free_of {E0 E : Env} {l : Array Bool} {a : Act} (hT : Trace P N lo ops D K) (hS : Sound P call) (hfr : Fr E0 (D 0).n (D ops.size).n) (hA : InvA N ops D E0 l E a) {i : Nat} (hi : i < ops.size) (hn : ¬ Lst l i) : Fr E (D i).n (D (i + 1)).n := by
  intro k h1 h2 hk
  rcases hA.ub k hk with h | ⟨j, hj, h3, h4⟩
  · have a1 := hT.n_mono hS (i := 0) (k := i) (by omega) (by omega)
    have a2 := hT.n_mono hS (i := i + 1) (k := ops.size) (by omega) (by omega)
    exact hfr k (by omega) (by omega) h
  · have hjl : j < ops.size := by have := lst_lt hj; rw [hA.lsz] at this; exact this
    have hne : j ≠ i := fun e => hn (e ▸ hj)
    rcases Nat.lt_or_ge j i with h | h
    · have := hT.n_mono hS (i := j + 1) (k := i) (by omega) (by omega); omega
    · have := hT.n_mono hS (i := i + 1) (k := j) (by omega) (by omega); omega

/-- the heap that a quiet operation sees -/
theorem quiet_seen {E0 E : Env} {l : Array Bool} {a : Act} {p : Nat} (hT : Trace P N lo ops D K) (hA : InvA N ops D E0 l E a) (hH : InvH ops D K l E p) {i : Nat} (hi : i < ops.size) (hn : ¬ Lst l i)
    (hp : ∀ j, (bm ops i).testBit j = true → Lst l j) (hl : ∀ j ∈ (D i).l, (bm ops i).testBit j = true) (hk : K i = 1 ∨ K i = 2) : p ≤ i ∧ (D i).B = (D p).B ∧ ∀ j f, (j, f) ∈ (D i).F → p ≤ j ∧ j < i ∧ K j = 1 ∧ f = piece D j := by
  have hpi : p ≤ i := by
    rcases Nat.lt_or_ge i p with h | h
    · rcases hk with hk | hk
      · exact absurd (hH.quiets i h hk) hn
      · exact absurd ((hH.louds i hi hk).2 h) hn
    · exact h
  have hno : ∀ k, p ≤ k → k < i → K k ≠ 2 := by
    intro k h1 h2 hk2
    have hmem : k ∈ (D i).l := (hT.l_iff (by omega) k).2 ⟨h2, hk2⟩
    have := (hH.louds k (by omega) hk2).1 (hp k (hl k hmem))
    omega
  refine ⟨hpi, hT.B_same hpi (by omega) hno, fun j f hf => ?_⟩
  obtain ⟨hq, rfl⟩ := (hT.F_iff (by omega) j f).1 hf
  obtain ⟨h1, h2, h3⟩ := (hT.q_iff (by omega) j).1 hq
  refine ⟨?_, h1, h2, rfl⟩
  rcases Nat.lt_or_ge j p with h | h
  · exfalso
    rcases hH.pl with h0 | h0
    · omega
    · by_cases e : j = p - 1
      · subst e; omega
      · exact h3 (p - 1) (by omega) (by omega) h0
  · exact h

theorem inv_step (hS : Sound P call) (hT : Trace P N lo ops D K) (hok : tmpOk ops.toList ops (bits ops) = true) {E0 E : Env} {l : Array Bool} {a : Act} {p : Nat} (hfr : Fr E0 (D 0).n (D ops.size).n)
    (hA : InvA N ops D E0 l E a) (hH : InvH ops D K l E p) {i : Nat} {o : Oper} (hi : i < ops.size) (hn : ¬ Lst l i) (ho : ops[i]? = some o) (hpr : ∀ e ∈ o.after.toList, Region.binds .any e = true → Lst l e.on)
    {Q : Exit → Act → World → Prop} (hL : LetsGo Q) {next : Act → World → Prop} (hK : ∀ E2 a2 p2, InvA N ops D E0 (l.setIfInBounds i true) E2 a2 → InvH ops D K (l.setIfInBounds i true) E2 p2 → next a2 E2.w) :
    wpOp P ops Q i next a E.w := by
  have hil : i < l.size := by rw [hA.lsz]; exact hi
  have hp : ∀ j, (bm ops i).testBit j = true → Lst l j := fun j hj => preds_in hA ho hpr hj
  obtain ⟨o', ho', hsm, hk⟩ := hT.step i hi
  obtain rfl : o' = o := by rw [ho] at ho'; exact (Option.some.inj ho').symm
  have hTR := looks_tr hT hok hA hi hn ho hp
  have hfrI := free_of hT hS hfr hA hi hn
  have hkB := (hT.keys hS (i := i) (by omega)).1
  have hkF := (hT.keys hS (i := i) (by omega)).2
  simp only [wpOp, ho]
  have hnle := hT.n_le hS hi
  generalize hs : D (i + 1) = s at hk
  generalize hki : K i = k at hk
  cases hk with
  | skip h1 =>
    rw [if_neg (by rw [cwanted_sound hTR h1]; simp)]
    exact hK E _ p (inv_a_step hT hok hA hi hn ho hp (.refl E) .refl hsm (x := .tup []) (by rw [hs]) vr_undef)
      (inv_h_same hH hil (by omega) hH.base hH.goodB (fun j hj hl hk => hH.goodF j hj (hl.resolve_left (fun e => by subst e; omega)) hk))
  | free x h1 h2 =>
    rw [if_pos (cwanted_sound hTR h1)]
    refine .inl (h2.2 (E.see fun _ => False) _ (see_hr hH.base (fun b blk hb => by simp [hget_nil, hget_cons] at hb)) (fun b blk hb => by simp [hget_nil, hget_cons] at hb) (fun t y hy => (hTR t y hy).mono see_ex) (fun k a1 a2 => by omega) _ _ hL ?_)
    intro E' v hex hh hub hv
    have hwx := whole_ex hex
    have hb2 := whole_base hH.base hh.base hex
    refine hK (E.whole E' fun _ => False) _ p (inv_a_step hT hok hA hi hn ho hp hwx ?_ hsm (x := x) (by rw [hs]) (whole_vr hv))
      (inv_h_same hH hil (by omega) hb2 (fun b blk hb => whole_good_old hH.base hex (hH.goodB b blk hb) (by simp)) (fun j hj hl hk b blk hb => whole_good_old hH.base hex (hH.goodF j hj (hl.resolve_left (fun e => by subst e; omega)) hk b blk hb) (by simp)))
    intro k hk
    rcases hub k hk with h | h
    · exact .inl h
    · omega
  | quiet x H' n' h1 h2 h3 =>
    rw [if_pos (cwanted_sound hTR h1)]
    obtain ⟨hpi, hBB, hFF⟩ := quiet_seen hT hA hH hi hn hp h2 (.inl hki)
    have hkeys := keys_sel (m := bm ops i) hkF hkB
    have hnn : (D (i + 1)).n = n' := by rw [hs]
    have hsee : ∀ b blk, hget (selF (bm ops i) (D i).F ++ (D i).B) b = some blk → Good E b blk := by
      intro b blk hb
      rcases heap_mem_append hb with hb | hb
      · obtain ⟨j, f, a1, a2, a3⟩ := selF_mem hb
        obtain ⟨b1, b2, b3, rfl⟩ := hFF j f a1
        exact hH.goodF j b1 (hp j a2) b3 b blk a3
      · rw [hBB] at hb; exact hH.goodB b blk hb
    let Dp : Nat → Prop := fun b => (hget (selF (bm ops i) (D i).F ++ (D i).B) b).isSome = true
    refine .inl (h3.2 (E.see Dp) _ (see_hr hH.base (fun b blk hb => ⟨by show (hget _ b).isSome = true; rw [hb]; rfl, hsee b blk hb⟩)) hkeys (fun t y hy => (hTR t y hy).mono see_ex) (by rw [← hnn]; exact hfrI) _ _ hL ?_)
    intro E' v hex hh hub hv
    have hwx := whole_ex hex
    have hb2 := whole_base hH.base hh.base hex
    have hkp := h3.1
    -- what was seen is as it was
    have keep : ∀ b blk, hget (selF (bm ops i) (D i).F ++ (D i).B) b = some blk → Good (E.whole E' Dp) b blk := by
      intro b blk hb
      have hlt := hkeys b blk hb
      exact whole_good_new (hh.good (by rw [hkp.2.1 (Nat.le_refl _) b hlt]; exact hb))
    have uniq : ∀ j f b blk, (j, f) ∈ (D i).F → hget f b = some blk → (D j).n ≤ b ∧ b < (D (j + 1)).n := by
      intro j f b blk hf hb
      obtain ⟨b1, b2, b3, rfl⟩ := hFF j f hf
      exact hT.piece_keys hS (by omega) b3 hb
    refine hK (E.whole E' Dp) _ p (inv_a_step hT hok hA hi hn ho hp hwx (by rw [hnn]; exact hub) hsm (x := x) (by rw [hs]) (whole_vr hv))
      (inv_h_same hH hil (by omega) hb2 (fun b blk hb => ?_) (fun j hj hl hk b blk hb => ?_))
    · refine keep b blk ?_
      have hkp0 := (hT.keys hS (i := p) hH.p_le).1 b blk hb
      rw [heap_append, selF_miss, hBB]
      · exact hb
      · intro j f hf
        cases hfb : hget f b with
        | none => rfl
        | some blk' =>
          obtain ⟨b1, b2, b3, rfl⟩ := hFF j f hf
          have := (uniq j _ b blk' hf hfb).1
          have := hT.n_mono hS (i := p) (k := j) b1 (by omega)
          omega
    · by_cases hji : j = i
      · subst hji
        have hpc : piece D j = fresh (D j).n H' := by unfold piece; rw [hs]
        rw [hpc] at hb
        exact whole_good_new (hh.good (fresh_get hb).2)
      · have hjl : Lst l j := hl.resolve_left hji
        have hjm : j < ops.size := by have := lst_lt hjl; rw [hA.lsz] at this; exact this
        by_cases hd : Dp b
        · -- it is one of the seen pieces
          have hbk := hT.piece_keys hS hjm hk hb
          obtain ⟨blk', hblk'⟩ := Option.isSome_iff_exists.1 hd
          have : blk' = blk := by
            rcases heap_mem_append hblk' with h | h
            · obtain ⟨j', f', a1, a2, a3⟩ := selF_mem h
              obtain ⟨b1, b2, b3, rfl⟩ := hFF j' f' a1
              have hk' := hT.piece_keys hS (by omega) b3 a3
              have hjj : j' = j := by
                rcases Nat.lt_trichotomy j' j with g | g | g
                · have := hT.n_mono hS (i := j' + 1) (k := j) (by omega) (by omega); omega
                · exact g
                · have := hT.n_mono hS (i := j + 1) (k := j') (by omega) (by omega); omega
              subst hjj
              rw [hb] at a3; exact (Option.some.inj a3).symm
            · exfalso
              rw [hBB] at h
              have := (hT.keys hS (i := p) hH.p_le).1 b blk' h
              have := hT.n_mono hS (i := p) (k := j) hj (by omega)
              omega
          rw [this] at hblk'
          exact keep b blk hblk'
        · exact whole_good_old hH.base hex (hH.goodF j hj hjl hk b blk hb) hd
  | loud x H' n' h1 h2 h3 h4 =>
    rw [if_pos (cwanted_sound hTR h1)]
    obtain ⟨hpi, hBB, hFF⟩ := quiet_seen hT hA hH hi hn hp h2 (.inr hki)
    have hkeys0 := keys_all hkF hkB
    have hkeys : Keys (hideAll (atOnce (bm ops i) (D i).w) (allF (D i).F ++ (D i).B)) (D i).n := fun b blk hb => hkeys0 b blk (hide_some hb).2
    have hnn : (D (i + 1)).n = n' := by rw [hs]
    have hsee : ∀ b blk, hget (allF (D i).F ++ (D i).B) b = some blk → Good E b blk := by
      intro b blk hb
      rcases heap_mem_append hb with hb | hb
      · obtain ⟨j, f, a1, a3⟩ := allF_mem hb
        obtain ⟨b1, b2, b3, b4⟩ := hFF j f a1
        have hjq := ((hT.F_iff (by omega) j f).1 a1).1
        rw [b4] at a3
        exact hH.goodF j b1 (hp j (h3 j hjq)) b3 b blk a3
      · rw [hBB] at hb; exact hH.goodB b blk hb
    let Dp : Nat → Prop := fun b => b ∉ atOnce (bm ops i) (D i).w
    refine .inl (h4.2 (E.see Dp) _ (see_hr hH.base (fun b blk hb => ⟨(hide_some hb).1, hsee b blk (hide_some hb).2⟩)) hkeys (fun t y hy => (hTR t y hy).mono see_ex) (by rw [← hnn]; exact hfrI) _ _ hL ?_)
    intro E' v hex hh hub hv
    have hwx := whole_ex hex
    have hb2 := whole_base hH.base hh.base hex
    have hA' := inv_a_step hT hok hA hi hn ho hp hwx (by rw [hnn]; exact hub) hsm (x := x) (by rw [hs]) (whole_vr hv)
    refine hK (E.whole E' Dp) _ (i + 1) hA' ⟨by omega, fun j hj hk => ?_, .inr (by simpa using hki), fun j hj hk => ?_, hb2, fun b blk hb => ?_, fun j hj hl hk b blk hb => ?_⟩
    · rw [lst_set hil]
      constructor
      · rintro (rfl | h)
        · omega
        · have := (hH.louds j hj hk).1 h; omega
      · intro h
        by_cases e : j = i
        · exact .inl e
        · exact .inr (hp j (h2 j ((hT.l_iff (by omega) j).2 ⟨by omega, hk⟩)))
    · rw [lst_set hil]
      by_cases e : j = i
      · exact .inl e
      · refine .inr ?_
        rcases Nat.lt_or_ge j p with h | h
        · exact hH.quiets j h hk
        · refine hp j (h3 j ((hT.q_iff (by omega) j).2 ⟨by omega, hk, fun k a1 a2 hk2 => ?_⟩))
          have := (hH.louds k (by omega) hk2).1 (hp k (h2 k ((hT.l_iff (by omega) k).2 ⟨a2, hk2⟩)))
          omega
    · rw [hs] at hb
      rcases heap_mem_append hb with hb | hb
      · obtain ⟨k1, k2⟩ := keep_some hb
        exact whole_good_old hH.base hex (hsee b blk k2) (fun hd => hd k1)
      · exact whole_good_new (hh.good hb)
    · exfalso
      have hjl : Lst l j := ((lst_set hil).1 hl).resolve_left (by omega)
      have hjm : j < ops.size := by have := lst_lt hjl; rw [hA.lsz] at this; exact this
      -- j is behind the loud one, so that one stood in the list
      obtain ⟨oj, hoj, _, hkj⟩ := hT.step j hjm
      have hmem : i ∈ (D j).l := (hT.l_iff (by omega) i).2 ⟨by omega, hki⟩
      generalize D (j + 1) = sj at hkj
      rw [hk] at hkj
      cases hkj with
      | quiet x' H'' n'' g1 g2 g3 => exact hn (hA.closed j hjl i (g2 i hmem))
  | watch x c blk H' h1 h2 h3 h4 =>
    obtain ⟨o2, x2, c2, blk2, H2, e1, e2, e3, e4, e5, e6, hW⟩ := hT.watched hS hi hki
    have hBp : hget (D p).B c = some blk := by
      have hc2 : c2 = c ∧ blk2 = blk := by
        have hw : (D (i + 1)).w = (i, c2) :: (D i).w := by rw [e6]
        have hw' : (D (i + 1)).w = (i, c) :: (D i).w := by rw [hs]
        rw [hw] at hw'
        simp at hw'
        subst hw'
        rw [h3] at e4
        exact ⟨rfl, (Option.some.inj e4).symm⟩
      obtain ⟨rfl, rfl⟩ := hc2
      rcases Nat.lt_or_ge i p with hip | hip
      · refine (hW p hip hH.p_le fun k k1 k2 k3 hbit => ?_).2
        exact hn (hA.closed k ((hH.louds k (by have := hH.p_le; omega) k3).2 k2) i hbit)
      · rw [← hT.B_same hip (by omega) (fun k k1 k2 k3 => ?_)]
        · exact h3
        · have hmem : k ∈ (D i).l := (hT.l_iff (by omega) k).2 ⟨k2, k3⟩
          have := (hH.louds k (by omega) k3).1 (hp k (h2 k hmem))
          omega
    rw [if_pos (cwanted_sound hTR h1)]
    let Dp : Nat → Prop := fun b => b = c
    have hone : ∀ b blk', hget [(c, blk)] b = some blk' → b = c ∧ blk' = blk := by
      intro b blk' hb
      rw [hget_cons] at hb
      split at hb
      · next e => exact ⟨e.symm, (Option.some.inj hb).symm⟩
      · simp [hget_nil, hget_cons] at hb
    have hcn : c < (D i).n := hkB c blk h3
    have hself : hget [(c, blk)] c = some blk := by rw [hget_cons, if_pos rfl]
    refine .inl (h4.2 (E.see Dp) _ (see_hr hH.base (fun b blk' hb => ?_)) (fun b blk' hb => ?_) (fun t y hy => (hTR t y hy).mono see_ex) (fun k a1 a2 => by omega) _ _ hL ?_)
    · obtain ⟨rfl, rfl⟩ := hone b blk' hb
      exact ⟨rfl, hH.goodB _ _ hBp⟩
    · obtain ⟨rfl, rfl⟩ := hone b blk' hb
      exact hcn
    intro E' v hex hh hub hv
    have hwx := whole_ex hex
    have hb2 := whole_base hH.base hh.base hex
    have hkp := h4.1
    have keep : Good (E.whole E' Dp) c blk := whole_good_new (hh.good (by rw [hkp.2.1 (Nat.le_refl _) c hcn]; exact hself))
    refine hK (E.whole E' Dp) _ p (inv_a_step hT hok hA hi hn ho hp hwx ?_ hsm (x := x) (by rw [hs]) (whole_vr hv))
      (inv_h_same hH hil (by omega) hb2 (fun b blk' hb => ?_) (fun j hj hl hk b blk' hb => ?_))
    · intro k hk
      rcases hub k hk with h | h
      · exact .inl h
      · omega
    · by_cases e : b = c
      · subst e; rw [hBp] at hb; rw [← Option.some.inj hb]; exact keep
      · exact whole_good_old hH.base hex (hH.goodB b blk' hb) e
    · have hjl := hl.resolve_left (fun e => by subst e; omega)
      have hjm : j < ops.size := by have := lst_lt hjl; rw [hA.lsz] at this; exact this
      refine whole_good_old hH.base hex (hH.goodF j hj hjl hk b blk' hb) (fun e => ?_)
      have e : b = c := e
      have h5 := (hT.piece_keys hS hjm hk hb).1
      have h6 := (hT.keys hS (i := p) hH.p_le).1 c blk hBp
      have h7 := hT.n_mono hS (i := p) (k := j) hj (by omega)
      omega

theorem wpAny_of (hS : Sound P call) (hT : Trace P N lo ops D K) (hok : tmpOk ops.toList ops (bits ops) = true) (hed : edgesOk ops = true) {E0 : Env} (hfr : Fr E0 (D 0).n (D ops.size).n)
    {Q : Exit → Act → World → Prop} (hL : LetsGo Q) (hK : ∀ E' a', Ex E0 E' → UB E0 E' (D 0).n (D ops.size).n → Rel N E' ⟨(D ops.size).tm, allF (D ops.size).F ++ (D ops.size).B, (D ops.size).n⟩ a' → Q .normal a' E'.w) :
    ∀ (fuel : Nat) (l : Array Bool) (E : Env) (a : Act) (p : Nat), InvA N ops D E0 l E a → InvH ops D K l E p → (List.range ops.size).countP (fun i => !l.getD i true) ≤ fuel → wpAny P .any ops Q fuel l a E.w := by
  -- all are listed where none is ready
  have all_of : ∀ (l : Array Bool), l.size = ops.size → Region.ready .any ops l = [] → ∀ i, i < ops.size → Lst l i := by
    intro l hl hr i
    induction i using Nat.strongRecOn with
    | _ i ih =>
      intro hi
      by_cases h : Lst l i
      · exact h
      · exfalso
        have : i ∈ Region.ready .any ops l := (ready_spec hl).2 ⟨hi, h, ops[i], Array.getElem?_eq_getElem hi, fun e he hb => by
          have := edgesOk_spec hed (Array.getElem?_eq_getElem hi) he hb
          exact ih e.on this (by omega)⟩
        rw [hr] at this; simp at this
  have fin : ∀ (l : Array Bool) (E : Env) (a : Act) (p : Nat), InvA N ops D E0 l E a → InvH ops D K l E p → (∀ i, i < ops.size → Lst l i) → Q .normal a E.w := by
    intro l E a p hA hH hall
    refine hK E a hA.ex ?_ ⟨hH.base.hr ?_, ?_, fun t x hx => ?_, hA.size, hA.defers⟩
    · intro k hk
      rcases hA.ub k hk with h | ⟨j, hj, h1, h2⟩
      · exact .inl h
      · have hjl : j < ops.size := by have := lst_lt hj; rw [hA.lsz] at this; exact this
        have := hT.n_mono hS (i := 0) (k := j) (by omega) (by omega)
        have := hT.n_mono hS (i := j + 1) (k := ops.size) (by omega) (by omega)
        exact .inr ⟨by omega, by omega⟩
    · have hno : ∀ k, p ≤ k → k < ops.size → K k ≠ 2 := by
        intro k h1 h2 hk2
        have := (hH.louds k h2 hk2).1 (hall k h2)
        omega
      have hBB := hT.B_same hH.p_le (Nat.le_refl _) hno
      intro b blk hb
      rcases heap_mem_append hb with hb | hb
      · obtain ⟨j, f, a1, a3⟩ := allF_mem hb
        obtain ⟨hq, rfl⟩ := (hT.F_iff (Nat.le_refl _) j f).1 a1
        obtain ⟨h1, h2, h3⟩ := (hT.q_iff (Nat.le_refl _) j).1 hq
        refine hH.goodF j ?_ (hall j h1) h2 b blk a3
        rcases Nat.lt_or_ge j p with h | h
        · exfalso
          rcases hH.pl with h0 | h0
          · omega
          · by_cases e : j = p - 1
            · subst e; omega
            · exact h3 (p - 1) (by omega) (by have := hH.p_le; omega) h0
        · exact h
      · rw [hBB] at hb; exact hH.goodB b blk hb
    · obtain ⟨hB, hF⟩ := hT.keys hS (i := ops.size) (Nat.le_refl _)
      exact keys_all hF hB
    · exact hA.tmps t ops.size (Nat.le_refl _) (fun j o hj _ _ => hall j hj) (fun j o hj _ _ => by have := lst_lt hj; rw [hA.lsz] at this; exact this) x hx
  intro fuel
  induction fuel with
  | zero =>
    intro l E a p hA hH hc
    have hall : ∀ i, i < ops.size → Lst l i := by
      intro i hi
      have h0 : (List.range ops.size).countP (fun i => !l.getD i true) = 0 := by omega
      rw [List.countP_eq_zero] at h0
      have := h0 i (by simpa using hi)
      exact (not_lst (by rw [hA.lsz]; exact hi)).1 (by simpa using this)
    refine ⟨?_, fin l E a p hA hH hall⟩
    rw [List.eq_nil_iff_forall_not_mem]
    intro i hi
    have := (ready_spec hA.lsz).1 hi
    exact this.2.1 (hall i this.1)
  | succ fuel ih =>
    intro l E a p hA hH hc
    refine ⟨fun hr => fin l E a p hA hH (all_of l hA.lsz hr), fun i hi => ?_⟩
    obtain ⟨h1, h2, o, ho, h3⟩ := (ready_spec hA.lsz).1 hi
    refine inv_step hS hT hok hfr hA hH h1 h2 ho h3 hL fun E2 a2 p2 hA2 hH2 => ih _ E2 a2 p2 hA2 hH2 ?_
    have hil : i < l.size := by rw [hA.lsz]; exact h1
    have : (List.range ops.size).countP (fun j => !(l.setIfInBounds i true).getD j true) < (List.range ops.size).countP (fun j => !l.getD j true) := by
      refine count_lt _ (fun x hx => ?_) ⟨i, by simpa using h1, ?_, ?_⟩
      · simp only [Array.getD_eq_getD_getElem?] at hx ⊢
        by_cases e : i = x
        · subst e; simp [hil] at hx
        · rw [Array.getElem?_setIfInBounds_ne e] at hx; exact hx
      · cases hg : l.getD i true with
        | false => rfl
        | true => exact absurd ((not_lst hil).1 hg) h2
      · simp [Array.getD_eq_getD_getElem?, hil]
    omega

theorem cdraw_takes (hS : Sound P call) {id : Nat} {cs cs' : CS} (h : cdraw P call N lo ops cs = some cs') (hkeys : Keys cs.H cs.n) : Takes P N (.region id ops true) cs cs' := by
  unfold cdraw at h
  split at h <;> try (simp at h; done)
  next hc =>
  simp only [Bool.and_eq_true] at hc
  obtain ⟨⟨hm, hok⟩, hed⟩ := hc
  split at h <;> simp only [Option.some.injEq, reduceCtorEq] at h
  next s hd =>
  obtain ⟨D, K, d1, d2, d3⟩ := dops_trace hS ops.toList _ 0 _ s hd
  rw [Nat.zero_add, Array.length_toList] at d2
  have hT : Trace P N lo ops D K := by
    refine ⟨fun i hi => ?_, by rw [d1], by rw [d1], by rw [d1], by rw [d1]; exact hkeys⟩
    have := d3 i ops[i] (by simp [hi])
    rw [Nat.zero_add] at this
    exact ⟨ops[i], Array.getElem?_eq_getElem hi, this⟩
  have hle := hT.n_mono hS (i := 0) (k := ops.size) (by omega) (Nat.le_refl _)
  rw [d1, d2] at hle
  subst h
  refine ⟨hle, fun E a Q hR hfr hL hK => wp_region_any hm ?_⟩
  have hlsz : (Array.replicate ops.size false).size = ops.size := by simp
  have hnl : ∀ i, ¬ Lst (Array.replicate ops.size false) i := by
    intro i h
    unfold Lst at h
    rw [Array.getD_eq_getD_getElem?, Array.getElem?_replicate] at h
    split at h <;> simp at h
  refine wpAny_of hS hT hok hed (E0 := E) (by rw [d1, d2]; exact hfr) hL (fun E' a' hex hub hR' => hK E' a' hex (by rw [d1, d2] at hub; exact hub) (by rw [d2] at hR'; exact hR')) ops.size _ E.draw a 0 ?_ ?_ ?_
  · refine ⟨hlsz, fun i hi => absurd hi (hnl i), draw_ex E, fun k hk => .inl hk, fun t k hk h1 h2 x hx => ?_, hR.size, hR.defers⟩
    have hsame := hT.tm_same (t := t) (i := 0) (k := k) (by omega) hk (fun j o a1 a2 hoj hdj => hnl j (h1 j o a2 hoj hdj))
    rw [hsame, d1] at hx
    exact (hR.tmps t x hx).mono (draw_ex E)
  · refine ⟨Nat.zero_le _, fun j hj hk => ⟨fun h => absurd h (hnl j), fun h => by omega⟩, .inl rfl, fun j hj => by omega, (draw_hr hR.heap).base, fun b blk hb => ?_, fun j hj hl => absurd hl (hnl j)⟩
    rw [d1] at hb
    exact (draw_hr hR.heap).good hb
  · have := List.countP_le_length (p := fun i => !(Array.replicate ops.size false).getD i true) (l := List.range ops.size)
    simpa using this


theorem hget_miss_all {F : List (Nat × CHeap)} {b : Nat} (h : ∀ j f, (j, f) ∈ F → hget f b = none) : hget (allF F) b = none := by
  cases hh : hget (allF F) b with
  | none => rfl
  | some blk =>
    obtain ⟨j, f, h1, h3⟩ := allF_mem hh
    rw [h j f h1] at h3; simp at h3

theorem dstep_keeps (hS : Sound P call) {m : Nat} {i : Nat} {o : Oper} {s s' : DS} {k : Nat} (h : DK P lo ops m i o s k s') :
    s.n ≤ s'.n ∧ (lo ≤ s.n → (∀ c, c < lo → ∀ j f, (j, f) ∈ s.F → hget f c = none) → (∀ c, c < lo → hget s'.B c = hget s.B c) ∧ ∀ c, c < lo → ∀ j f, (j, f) ∈ s'.F → hget f c = none) ∧
      (Keys s.B s.n → (∀ j f, (j, f) ∈ s.F → Keys f s.n) → Keys s'.B s'.n ∧ ∀ j f, (j, f) ∈ s'.F → Keys f s'.n) := by
  cases h with
  | skip h1 => exact ⟨Nat.le_refl _, fun _ h => ⟨fun _ _ => rfl, h⟩, fun h1 h2 => ⟨h1, h2⟩⟩
  | free x h1 h2 => exact ⟨Nat.le_refl _, fun _ h => ⟨fun _ _ => rfl, h⟩, fun h1 h2 => ⟨h1, h2⟩⟩
  | watch x c blk H' h1 h2 h3 h4 => exact ⟨Nat.le_refl _, fun _ h => ⟨fun _ _ => rfl, h⟩, fun h1 h2 => ⟨h1, h2⟩⟩
  | quiet x H' n' h1 h2 h3 =>
    have hkp := h3.1
    refine ⟨hkp.1, fun hl hF => ⟨fun _ _ => rfl, fun c hc j f hf => ?_⟩, fun hB hF => ?_⟩
    · rcases List.mem_cons.1 hf with hf | hf
      · simp at hf
        obtain ⟨rfl, rfl⟩ := hf
        cases hg : hget (fresh s.n H') c with
        | none => rfl
        | some blk => have := (fresh_get hg).1; omega
      · exact hF c hc j f hf
    · have hk' := hkp.2.2 (keys_sel hF hB)
      refine ⟨hB.mono hkp.1, fun j f hf => ?_⟩
      rcases List.mem_cons.1 hf with hf | hf
      · simp at hf
        obtain ⟨rfl, rfl⟩ := hf
        exact fun b blk hb => hk' b blk (fresh_get hb).2
      · exact (hF j f hf).mono hkp.1
  | loud x H' n' h1 h2 h3 h4 =>
    have hkp := h4.1
    refine ⟨hkp.1, fun hl hF => ⟨fun c hc => ?_, fun c hc j f hf => by simp at hf⟩, fun hB hF => ⟨fun b blk hb => ?_, fun j f hf => by simp at hf⟩⟩
    · have h0 : hget (allF s.F ++ s.B) c = hget s.B c := by rw [heap_append, hget_miss_all (fun j f hf => hF c hc j f hf)]
      show hget (keepAll _ _ ++ H') c = _
      by_cases hm : c ∈ atOnce m s.w
      · rw [heap_append, keep_mem hm, hkp.2.1 hl c hc, hide_mem hm, h0]
        cases hget s.B c <;> rfl
      · rw [heap_append, keep_not hm, hkp.2.1 hl c hc, hide_not hm, h0]
    · rcases heap_mem_append hb with hb | hb
      · exact Nat.lt_of_lt_of_le (keys_all hF hB b blk (keep_some hb).2) hkp.1
      · exact hkp.2.2 (fun b' blk' hb' => keys_all hF hB b' blk' (hide_some hb').2) b blk hb

theorem dops_keeps (hS : Sound P call) : ∀ (rest : List Oper) (ms : List Nat) (i : Nat) (s s' : DS), dops P call N lo ops rest ms i s = some s' →
    s.n ≤ s'.n ∧ (lo ≤ s.n → (∀ c, c < lo → ∀ j f, (j, f) ∈ s.F → hget f c = none) → (∀ c, c < lo → hget s'.B c = hget s.B c) ∧ ∀ c, c < lo → ∀ j f, (j, f) ∈ s'.F → hget f c = none) ∧
      (Keys s.B s.n → (∀ j f, (j, f) ∈ s.F → Keys f s.n) → Keys s'.B s'.n ∧ ∀ j f, (j, f) ∈ s'.F → Keys f s'.n)
  | [], ms, i, s, s', h => by
    simp [dops] at h; subst h
    exact ⟨Nat.le_refl _, fun _ h => ⟨fun _ _ => rfl, h⟩, fun h1 h2 => ⟨h1, h2⟩⟩
  | _ :: _, [], i, s, s', h => by simp [dops] at h
  | o :: rest, m :: ms, i, s, s', h => by
    simp only [dops] at h
    split at h <;> try (simp at h; done)
    next s1 h1 =>
    obtain ⟨_, k, hk⟩ := dstep_kinds hS h1
    obtain ⟨a1, a2, a3⟩ := dstep_keeps hS hk
    obtain ⟨b1, b2, b3⟩ := dops_keeps hS rest ms (i + 1) s1 s' h
    refine ⟨Nat.le_trans a1 b1, fun hl hF => ?_, fun hB hF => ?_⟩
    · obtain ⟨c1, c2⟩ := a2 hl hF
      obtain ⟨d1, d2⟩ := b2 (Nat.le_trans hl a1) c2
      exact ⟨fun c hc => (d1 c hc).trans (c1 c hc), d2⟩
    · obtain ⟨c1, c2⟩ := a3 hB hF
      exact b3 c1 c2

theorem cdraw_keeps (hS : Sound P call) {cs cs' : CS} (h : cdraw P call N lo ops cs = some cs') : Keeps cs.H cs'.H cs.n cs'.n lo := by
  unfold cdraw at h
  split at h <;> try (simp at h; done)
  split at h <;> simp only [Option.some.injEq, reduceCtorEq] at h
  next s hd =>
  subst h
  obtain ⟨h1, h2, h3⟩ := dops_keeps hS _ _ _ _ _ hd
  refine ⟨h1, fun hl c hc => ?_, fun hk => ?_⟩
  · obtain ⟨a1, a2⟩ := h2 hl (fun c hc j f hf => by simp at hf)
    rw [heap_append, hget_miss_all (fun j f hf => a2 c hc j f hf)]
    exact a1 c hc
  · obtain ⟨a1, a2⟩ := h3 hk (fun j f hf => by simp at hf)
    exact keys_all a2 a1

end
end Go.Cn
