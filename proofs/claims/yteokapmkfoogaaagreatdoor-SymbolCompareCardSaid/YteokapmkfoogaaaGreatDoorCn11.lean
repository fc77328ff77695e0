/- The canonical calculus, part 11: building values and slices. -/
import Derived.Test.YteokapmkfoogaaaGreatDoorCn10
set_option linter.unusedVariables false
set_option linter.unusedSimpArgs false
noncomputable section
namespace Go.Cn

section
variable {P : Program}

def PR (E : Env) : List (Nat × CV) → List (Nat × Value) → Prop
  | [], [] => True
  | (i, x) :: ps, (j, v) :: qs => i = j ∧ VR E x v ∧ PR E ps qs
  | _, _ => False

theorem cparts_sound {E : Env} {tm : CTm} {a : Act} (hT : TR E tm a) : ∀ {os : List (Nat × Operand)} {ps : List (Nat × CV)}, cparts tm os = some ps → PR E ps (os.map fun (i, x) => (i, a.eval x))
  | [], ps, h => by simp [cparts] at h; subst h; trivial
  | (i, o) :: os, ps, h => by
    simp only [cparts] at h
    split at h <;> simp only [Option.some.injEq, reduceCtorEq] at h
    next x ys hx hys =>
      subst h
      exact ⟨rfl, cval_sound hT hx, cparts_sound hT hys⟩

def CR (E : Env) (blk : List CV) (cs : Array Value) : Prop := cs.size = blk.length ∧ ∀ (j : Nat) x v, blk[j]? = some x → cs[j]? = some v → VR E x v

theorem CR.set {E : Env} {blk : List CV} {cs : Array Value} {k : Nat} {x : CV} {v : Value} (h : CR E blk cs) (hv : VR E x v) : CR E (blk.set k x) (cs.setIfInBounds k v) := by
  refine ⟨by simpa using h.1, fun j y u hy hu => ?_⟩
  by_cases e : k = j
  · subst e
    have hk : k < blk.length := by
      rcases Nat.lt_or_ge k blk.length with h' | h'
      · exact h'
      · rw [List.getElem?_eq_none (by simpa using h')] at hy; simp at hy
    rw [List.getElem?_set_self hk] at hy
    rw [Array.getElem?_setIfInBounds_self_of_lt (by have := h.1; omega)] at hu
    cases hy; cases hu; exact hv
  · rw [List.getElem?_set_ne e] at hy
    rw [Array.getElem?_setIfInBounds_ne e] at hu
    exact h.2 j y u hy hu

theorem foldl_put {E : Env} {off : Nat} : ∀ (xs : List CV) (vs : List Value) (k : Nat) (blk : List CV) (cs : Array Value), CR E blk cs → vs.length = xs.length → (∀ (j : Nat) x v, xs[j]? = some x → vs[j]? = some v → VR E x v) →
    CR E (putCells blk (off + k) xs) ((vs.zipIdx k).foldl (fun cs p => cs.setIfInBounds (off + p.2) p.1) cs)
  | [], vs, k, blk, cs, h, hl, _ => by
    have : vs = [] := by simpa using hl
    subst this
    simpa [putCells] using h
  | x :: xs, vs, k, blk, cs, h, hl, hv => by
    cases vs with
    | nil => simp at hl
    | cons v vs =>
      simp only [List.zipIdx_cons, List.foldl_cons, putCells]
      exact foldl_put xs vs (k + 1) _ _ (h.set (hv 0 x v rfl rfl)) (by simpa using hl) (fun j y u hy hu => hv (j + 1) y u hy hu)

theorem cfill_sound {E : Env} {place : Nat → Option (Nat × Nat)} : ∀ (ps : List (Nat × CV)) (qs : List (Nat × Value)) (blk : List CV) (cs : Array Value) (cells : List CV), PR E ps qs → CR E blk cs → cfill place blk ps = some cells →
    ∃ vs, Instr.fill place cs qs = some vs ∧ CR E cells vs := by
  intro ps
  induction ps with
  | nil =>
    intro qs blk cs cells hp hc h
    cases qs with
    | nil => simp [cfill] at h; subst h; exact ⟨cs, rfl, hc⟩
    | cons q qs => simp [PR] at hp
  | cons p ps ih =>
    intro qs blk cs cells hp hc h
    obtain ⟨i, x⟩ := p
    cases qs with
    | nil => simp [PR] at hp
    | cons q qs =>
      obtain ⟨j, v⟩ := q
      obtain ⟨rfl, hxv, hp⟩ := hp
      simp only [cfill] at h
      split at h <;> try (simp at h; done)
      next off size hpl =>
      split at h <;> try (simp at h; done)
      next hcond =>
      simp only [Bool.and_eq_true] at hcond
      have h1 := Nat.eq_of_beq_eq_true hcond.1
      have h2 := Nat.le_of_ble_eq_true hcond.2
      obtain ⟨c1, c2⟩ := cells_sound hxv
      have hno : (decide (v.cells.size ≠ size) || decide (off + v.cells.size > cs.size)) = false := by
        have := hc.1
        simp
        omega
      simp only [Instr.fill, hpl, hno, Bool.false_eq_true, if_false]
      refine ih qs _ _ cells hp ?_ h
      have := foldl_put (off := off) x.cells v.cells.toList 0 blk cs hc (by simpa using c1) (fun j y u hy hu => c2 j y u hy (by simpa using hu))
      rw [Nat.add_zero] at this
      rw [← Array.foldl_toList]
      simpa using this

theorem run_mapM_list {α β : Type} {f : α → Sem β} {g : α → β} {w : World} : ∀ (l : List α), (∀ x ∈ l, (f x).run P w = .ok (g x) w) → (l.mapM f).run P w = .ok (l.map g) w
  | [], _ => by simp
  | x :: l, h => by
    simp only [List.mapM_cons, Sem.run_bind, h x (by simp), Result.andThen_ok]
    rw [run_mapM_list l (fun y hy => h y (by simp [hy]))]
    simp

theorem run_mapM {α β : Type} {f : α → Sem β} {g : α → β} {w : World} (l : Array α) (h : ∀ x ∈ l.toList, (f x).run P w = .ok (g x) w) : (l.mapM f).run P w = .ok (l.map g) w := by
  rw [Array.mapM_eq_mapM_toList]
  simp only [Sem.run_map, run_mapM_list l.toList h, Result.andThen_ok]
  congr 1
  apply Array.ext'
  simp

theorem czero_cr {E : Env} {t : TypeId} {z : List CV} (h : czero P t = some z) : ∃ v, (∀ w, (zeroValue t).run P w = .ok v w) ∧ CR E z v.cells := by
  obtain ⟨v, h1, h2, h3⟩ := run_zeroValue' h
  exact ⟨v, h1, h2, h3 E⟩

theorem cbuild_sound {E : Env} {t : TypeId} {ps : List (Nat × CV)} {qs : Array (Nat × Value)} {x : CV} (hp : PR E ps qs.toList) (h : cbuild P t ps = some x) :
    ∃ r, (Instr.build t qs).run P E.w = .ok r E.w ∧ VR E x r := by
  unfold cbuild at h
  split at h
  · next z fs hz hu =>
    split at h <;> try (simp at h; done)
    next cells hf =>
    split at h <;> simp only [Option.some.injEq, reduceCtorEq] at h
    next hall =>
    subst h
    obtain ⟨zv, hz1, hz2⟩ := czero_cr (E := E) hz
    obtain ⟨vs, hfill, hcr⟩ := cfill_sound ps qs.toList z zv.cells cells hp hz2 hf
    refine ⟨.agg vs, ?_, .agg _ _ hcr.1 hcr.2⟩
    rw [List.all_eq_true] at hall
    have hm := run_mapM (P := P) (w := E.w) (f := fun f : Field => (do pure (f.offset, ← sizeOf f.type) : Sem (Nat × Nat))) (g := fun f => (f.offset, (tsize P f.type).getD 0)) fs (fun f hf => by
      obtain ⟨s, hs⟩ := Option.isSome_iff_exists.1 (hall f hf)
      simp [run_sizeOf' _ hs, hs])
    have hpl : (fun i : Nat => (fs.map fun f => (f.offset, (tsize P f.type).getD 0))[i]?) = fun i : Nat => match (fs[i]? : Option Field) with | some f => (match tsize P f.type with | some s => some (f.offset, s) | none => none) | none => none := by
      funext i
      rw [Array.getElem?_map]
      cases hi : fs[i]? with
      | none => rfl
      | some f =>
        have hmem : f ∈ fs.toList := by
          have := Array.mem_of_getElem? hi
          simpa using this
        obtain ⟨s, hs⟩ := Option.isSome_iff_exists.1 (hall f hmem)
        simp [hs]
    simp only [Instr.build, Sem.run_bind, hz1, run_underlying hu, Result.andThen_ok]
    rw [hm]
    have hfill' : Instr.fill (fun i : Nat => (fs.map fun f => (f.offset, (tsize P f.type).getD 0))[i]?) zv.cells qs.toList = some vs := by rw [hpl]; exact hfill
    simp only [Result.andThen_ok, hfill', Sem.run_pure]
  · next z n e hz hu =>
    split at h <;> try (simp at h; done)
    next s hs =>
    split at h <;> simp only [Option.some.injEq, reduceCtorEq] at h
    next cells hf =>
    subst h
    obtain ⟨zv, hz1, hz2⟩ := czero_cr (E := E) hz
    obtain ⟨vs, hfill, hcr⟩ := cfill_sound ps qs.toList z zv.cells cells hp hz2 hf
    refine ⟨.agg vs, ?_, .agg _ _ hcr.1 hcr.2⟩
    simp only [Instr.build, Sem.run_bind, hz1, run_underlying hu, run_sizeOf' _ hs, Result.andThen_ok, hfill, Sem.run_pure]
  · simp at h

theorem zeros_cr {E : Env} {z : List CV} {zc : Array Value} {n : Nat} (hz : CR E z zc) (hn : n ≠ 0 → z.length ≠ 0) :
    CR E (czeros z n) ((Array.range n).map fun i => (if n = 0 then #[] else zc)[i % (if n = 0 then #[] else zc).size]!) := by
  by_cases h0 : n = 0
  · subst h0; simp [czeros, CR]
  · simp only [h0, if_false]
    refine ⟨by simp [czeros], fun j x v hx hv => ?_⟩
    have hj : j < n := by
      rcases Nat.lt_or_ge j n with h | h
      · exact h
      · rw [List.getElem?_eq_none (by simpa [czeros] using h)] at hx; simp at hx
    have hm : j % z.length < z.length := Nat.mod_lt _ (by have := hn h0; omega)
    simp [czeros, hj] at hx
    simp [hj, hz.1] at hv
    have hm' : j % z.length < zc.size := by rw [hz.1]; exact hm
    rw [List.getElem?_eq_getElem hm] at hx
    rw [getElem!_pos zc _ hm'] at hv
    simp at hx
    subst hx; subst hv
    exact hz.2 _ _ _ (List.getElem?_eq_getElem hm) (Array.getElem?_eq_getElem hm')

theorem new_slice {E : Env} {H : CHeap} (hH : HR E H) {n : Nat} (hk : ¬ E.U n) {cells : List CV} {vs : Array Value} {e s len cap : Nat} (hc : CR E cells vs) (hl : cells.length = cap * s) (hlc : len ≤ cap) :
    HR (E.alloc n (.cells vs e)) ((n, cells) :: H) ∧ VR (E.alloc n (.cells vs e)) (.slice s n 0 len (some cap)) (.slice (some ⟨E.w.heap.size, 0, none⟩) len cap) := by
  refine ⟨alloc_hr hH hk (Nat.le_of_eq hc.1.symm) hc.2, .slice _ _ _ _ _ _ _ (by simp [Env.U, Env.alloc]) (fun r hr => ?_) hlc (fun c hc => Option.some.inj hc)⟩
  simp [Env.alloc] at hr
  subst hr
  refine ⟨rfl, ?_⟩
  have : bsz (E.alloc n (.cells vs e)).w E.w.heap.size = vs.size := by
    unfold bsz
    show (match (E.w.heap.push (.cells vs e))[E.w.heap.size]? with | some (.cells c _ _) => c.size | _ => 0) = _
    rw [Array.getElem?_push_size]
  rw [this, hc.1, hl]
  omega

theorem cbuildSlice_sound {E : Env} {H : CHeap} (hH : HR E H) {t : TypeId} {len : Nat} {ps : List (Nat × CV)} {qs : Array (Nat × Value)} {x : CV} {H' : CHeap} {n n' : Nat} (hp : PR E ps qs.toList)
    (h : cbuildSlice P t len ps H n = some (x, H', n')) (hfr : Fr E n n') : ∃ E' r, (Instr.buildSlice t len qs).run P E.w = .ok r E'.w ∧ Ex E E' ∧ HR E' H' ∧ UB E E' n n' ∧ VR E' x r := by
  unfold cbuildSlice at h
  split at h <;> try (simp at h; done)
  next e hu =>
  split at h <;> try (simp at h; done)
  next s z hs hz =>
  split at h <;> try (simp at h; done)
  next hcond =>
  split at h <;> simp only [Option.some.injEq, reduceCtorEq, Prod.mk.injEq] at h
  next cells hf =>
  obtain ⟨rfl, rfl, rfl⟩ := h
  simp only [Bool.or_eq_true, not_or, Bool.not_eq_true', Bool.not_eq_false, Nat.blt_eq] at hcond
  obtain ⟨hzl, hle⟩ := hcond
  have hzl := Nat.eq_of_beq_eq_true hzl
  obtain ⟨zv, hz1, hz2⟩ := czero_cr (E := E) hz
  have hne : len * s ≠ 0 → z.length ≠ 0 := by
    intro h1 h2
    apply h1
    rw [← hzl, h2, Nat.mul_zero]
  have hcr0 := zeros_cr hz2 hne
  obtain ⟨vs, hfill, hcr⟩ := cfill_sound ps qs.toList _ _ cells hp hcr0 hf
  have hlen : cells.length = len * s := by
    have : ∀ (ps : List (Nat × CV)) (blk cells : List CV), cfill (fun i => some (i * s, s)) blk ps = some cells → cells.length = blk.length := by
      intro ps
      induction ps with
      | nil => intro blk cells h; simp [cfill] at h; rw [h]
      | cons p ps ih =>
        intro blk cells h
        obtain ⟨i, x⟩ := p
        simp only [cfill] at h
        split at h <;> try (simp at h; done)
        rw [ih _ _ h, put_length]
    rw [this ps _ cells hf]
    simp [czeros]
  have hkn : ¬ E.U n := hfr n (Nat.le_refl _) (by omega)
  obtain ⟨q1, q2⟩ := new_slice hH hkn (e := e) hcr hlen (Nat.le_refl len)
  refine ⟨_, _, ?_, alloc_ex hH hkn, q1, alloc_ub, q2⟩
  have hbig : ¬ (len * s > 2 ^ 24) := by omega
  simp only [Instr.buildSlice, Sem.run_bind, run_underlying hu, run_sizeOf' _ hs, Result.andThen_ok, Sem.run_ite, if_neg hbig]
  by_cases h0 : len * s = 0
  · simp only [h0, if_true, Sem.run_pure, Result.andThen_ok] at hfill ⊢
    simp only [hfill, newRow, Sem.run_bind, run_newObj, Result.andThen_ok, Sem.run_pure]
    rfl
  · simp only [h0, if_false, Sem.run_bind, hz1, Sem.run_pure, Result.andThen_ok] at hfill ⊢
    simp only [hfill, newRow, Sem.run_bind, run_newObj, Result.andThen_ok, Sem.run_pure]
    rfl

theorem cmakeSlice_sound {E : Env} {H : CHeap} (hH : HR E H) {t : TypeId} {x y z : CV} {v u : Value} {H' : CHeap} {n n' : Nat} (hx : VR E x v) (hy : VR E y u) (h : cmakeSlice P t x y H n = some (z, H', n')) (hfr : Fr E n n') :
    ∃ E' r, (Instr.makeSlice t v u).run P E.w = .ok r E'.w ∧ Ex E E' ∧ HR E' H' ∧ UB E E' n n' ∧ VR E' z r := by
  unfold cmakeSlice at h
  split at h <;> try (simp at h; done)
  next e k l k' c hu =>
  split at h <;> try (simp at h; done)
  next sz by' zz hs hb hz =>
  split at h <;> simp only [Option.some.injEq, reduceCtorEq, Prod.mk.injEq] at h
  next hcond =>
  obtain ⟨rfl, rfl, rfl⟩ := h
  simp only [Bool.or_eq_true, not_or, Bool.not_eq_true', Bool.not_eq_false, decide_eq_true_eq] at hcond
  obtain ⟨⟨⟨⟨h1, h2⟩, h3⟩, h4⟩, h5⟩ := hcond
  have h3 := Nat.eq_of_beq_eq_true h3
  have h4 := Nat.le_of_ble_eq_true h4
  have h5 := Nat.le_of_ble_eq_true h5
  unfold growBytes at h5
  cases hx; cases hy
  obtain ⟨i, hi, hib⟩ := run_bytes hb
  obtain ⟨zv, hz1, hz2⟩ := czero_cr (E := E) hz
  have hc0 : c.toNat ≤ 70368744177664 := by
    have := Nat.mul_le_mul_left c.toNat h4
    omega
  have wl : IntKind.i64.wrap l = l := by unfold IntKind.wrap; simp [IntKind.bits, IntKind.signed]; omega
  have wc : IntKind.i64.wrap c = c := by unfold IntKind.wrap; simp [IntKind.bits, IntKind.signed]; omega
  have hbc : (by' : Int) * c ≤ 70368744177664 := by
    have : ((c.toNat * by' : Nat) : Int) ≤ 70368744177664 := by omega
    rw [Int.natCast_mul, Int.toNat_of_nonneg (by omega), Int.mul_comm] at this
    exact this
  have hne : c.toNat * sz ≠ 0 → zz.length ≠ 0 := by
    intro h1 h2
    apply h1
    rw [← h3, h2, Nat.mul_zero]
  have hcr := zeros_cr hz2 hne
  have hkn : ¬ E.U n := hfr n (Nat.le_refl _) (by omega)
  obtain ⟨q1, q2⟩ := new_slice hH hkn (e := e) (cap := c.toNat) (s := sz) (len := l.toNat) hcr (by simp [czeros]) (by omega)
  refine ⟨_, _, ?_, alloc_ex hH hkn, q1, alloc_ub, q2⟩
  have t1 : ¬ (c < 0) := by omega
  have t2 : ¬ ((by' : Int) * c > 2 ^ 48) := by omega
  simp only [Instr.makeSlice, Sem.run_bind, run_underlying hu, asInt, asIntOf, Sem.run_pure, Result.andThen_ok, hi, wl, wc, hib, t1, t2, h1, h2, decide_false, Bool.or_self, Bool.false_eq_true, if_false, run_askRoom, run_sizeOf' _ hs, gt_iff_lt]
  by_cases h0 : c.toNat * sz = 0
  · simp only [h0, if_true, Sem.run_pure, Result.andThen_ok, newRow, Sem.run_bind, run_newObj]
    rfl
  · simp only [h0, if_false, Sem.run_bind, hz1, Sem.run_pure, Result.andThen_ok, newRow, run_newObj]
    rfl

end
end Go.Cn
