/- The canonical calculus, part 12: every operation, calls too. -/
import Derived.Test.YteokapmkfoogaaaGreatDoorCn11
set_option linter.unusedVariables false
set_option linter.unusedSimpArgs false
noncomputable section
namespace Go.Cn

/-- (nothing: an ending for want of memory never comes) -/
def LetsGo (Q : Exit → Act → World → Prop) : Prop := True

section
variable {P : Program}

/-! ### numbers only grow; what lies below 'lo' is not written -/
def Keeps (H H' : CHeap) (n n' lo : Nat) : Prop := n ≤ n' ∧ (lo ≤ n → ∀ b, b < lo → hget H' b = hget H b) ∧ (Keys H n → Keys H' n')

theorem Keeps.refl {H : CHeap} {n lo : Nat} : Keeps H H n n lo := ⟨Nat.le_refl _, fun _ _ _ => rfl, fun h => h⟩

theorem Keeps.new {H : CHeap} {n lo : Nat} {blk : List CV} : Keeps H ((n, blk) :: H) n (n + 1) lo :=
  ⟨Nat.le_succ _, fun h b hb => by rw [hget_cons, if_neg (by omega)], fun h b bl hb => by
    rw [hget_cons] at hb
    split at hb
    · omega
    · have := h b bl hb; omega⟩

theorem Keeps.trans {H H' H'' : CHeap} {n n' n'' lo : Nat} (h : Keeps H H' n n' lo) (h' : Keeps H' H'' n' n'' lo) : Keeps H H'' n n'' lo :=
  ⟨Nat.le_trans h.1 h'.1, fun hl b hb => (h'.2.1 (Nat.le_trans hl h.1) b hb).trans (h.2.1 hl b hb), fun hk => h'.2.2 (h.2.2 hk)⟩

theorem Keeps.set {H : CHeap} {n lo b : Nat} {blk : List CV} (h : lo ≤ b) : Keeps H (hset H b blk) n n lo :=
  ⟨Nat.le_refl _, fun _ c hc => by rw [hget_hset, if_neg (by omega)], fun hk c bl hc => by
    rw [hget_hset] at hc
    split at hc
    · cases hg : hget H c with
      | none => simp [hg] at hc
      | some x => exact hk c x hg
    · exact hk c bl hc⟩

theorem Keeps.del {H : CHeap} {n lo b : Nat} {blk : List CV} (h : lo ≤ b) : Keeps H ((n, blk) :: hdel H b) n (n + 1) lo :=
  ⟨Nat.le_succ _, fun hl c hc => by rw [hget_cons, if_neg (by omega), hget_hdel, if_neg (by omega)], fun hk c bl hc => by
    rw [hget_cons, hget_hdel] at hc
    split at hc
    · omega
    · split at hc
      · simp at hc
      · have := hk c bl hc; omega⟩

/-- a function, called at these canonical values in this canonical memory, returns so; or the memory of the machine does not bear it. 'n', 'n'': the numbers from n to n' - 1 are free for new blocks -/
def HC (P : Program) (f : FuncId) (args : List CV) (H : CHeap) (n n' : Nat) (Q : CV → CHeap → Prop) : Prop :=
  ∀ (E : Env) (vs : Array Value), Fr E n n' → Keys H n → HR E H → VRs E args vs → Calls P f vs E.w fun e w' =>
    ∃ v x H' E', e = .returned v ∧ E'.w = w' ∧ Ex E E' ∧ HR E' H' ∧ UB E E' n n' ∧ VR E' x v ∧ Q x H'

def enterable (P : Program) (f : FuncId) : Prop := ∃ fn, P.funcs[f]? = some fn ∧ fn.body.isSome = true ∧ (fn.name == "runtime.NumGoroutine") = false

def Sound (P : Program) (call : Call) : Prop := ∀ f args H n lo x H' n', call f args H n lo = some (x, H', n') →
  enterable P f ∧ Keeps H H' n n' lo ∧ HC P f args H n n' fun y K => y = x ∧ K = H'

theorem vrs_append {E : Env} {xs ys : List CV} {vs us : Array Value} (h1 : VRs E xs vs) (h2 : VRs E ys us) : VRs E (xs ++ ys) (vs ++ us) := by
  refine ⟨by simp [h1.1, h2.1], fun i x v hx hv => ?_⟩
  rw [List.getElem?_append] at hx
  rw [Array.getElem?_append, h1.1] at hv
  split at hx
  · next hlt => simp only [hlt, if_true] at hv; exact h1.2 i x v hx hv
  · next hlt => simp only [hlt, if_false] at hv; exact h2.2 _ x v hx hv

theorem wp_val {o : Oper} {a : Act} {w w' : World} {next : Act → World → Prop} {Q : Exit → Act → World → Prop} {v : Value} (h : (execOp a.eval o).run P w = .ok (.value v) w') (hk : next (a.put o.dst v) w') : o.wp P a w next Q := by
  unfold Oper.wp; rw [h]; exact hk

theorem run_v {s : Sem Value} {w w' : World} {v : Value} (h : s.run P w = .ok v w') : (do pure (Next.value (← s)) : Sem Next).run P w = .ok (.value v) w' := by
  simp [h]

theorem run_builtin_v {s : Sem Value} {w w' : World} {v : Value} (h : s.run P w = .ok v w') : (Next.value <$> s : Sem Next).run P w = .ok (.value v) w' := by
  simp [h]

theorem vrs_two {E : Env} {x y : CV} {vs : Array Value} (h : VRs E [x, y] vs) : ∃ v u, vs = #[v, u] ∧ VR E x v ∧ VR E y u := by
  obtain ⟨v, us, h1, h2, h3⟩ := vrs_cons h
  obtain ⟨u, us', h4, h5, h6⟩ := vrs_cons h3
  have h7 := vrs_nil h6
  refine ⟨v, u, ?_, h2, h5⟩
  apply Array.ext'
  have h4 : us = u :: us' := h4
  have h7 : us' = [] := h7
  rw [h1, h4, h7]

theorem vrs_one {E : Env} {x : CV} {vs : Array Value} (h : VRs E [x] vs) : ∃ v, vs = #[v] ∧ VR E x v := by
  obtain ⟨v, us, h1, h2, h3⟩ := vrs_cons h
  have h7 := vrs_nil h3
  refine ⟨v, ?_, h2⟩
  apply Array.ext'
  have h7 : us = [] := h7
  rw [h1, h7]

theorem ccall_sound {call : Call} (hS : Sound P call) {o : Oper} {c : Go.Call} (ho : o.op = .call c) {tm : CTm} {H H' : CHeap} {n n' lo : Nat} {x : CV} {E : Env} {a : Act} (hH : HR E H) (hKy : Keys H n) (hT : TR E tm a)
    (h : ccall P call c tm H n lo = some (x, H', n')) (hfr : Fr E n n') {next : Act → World → Prop} {Q : Exit → Act → World → Prop} (hL : LetsGo Q)
    (hK : ∀ E' v, Ex E E' → HR E' H' → UB E E' n n' → VR E' x v → next (a.put o.dst v) E'.w) : o.wp P a E.w next Q := by
  unfold ccall at h
  split at h <;> try (simp at h; done)
  next args hargs =>
  have hva := cvals_vrs hT hargs
  split at h
  · next f hcal =>
    split at h <;> try (simp at h; done)
    next g first captured hf =>
    obtain ⟨⟨fn, hfn, hbody, hname⟩, _, hc⟩ := hS _ _ _ _ _ _ _ _ h
    have hvf := cval_sound hT hf
    generalize hv : a.eval f = v at hvf
    cases hvf with
    | fn _ _ _ fs cs g1 g2 g3 g4 =>
    have hrun : (execOp a.eval o).run P E.w = .ok (.enter g (fs ++ c.args.map a.eval ++ cs)) E.w := by
      have hnone : fn.body.isNone = false := by cases hb : fn.body <;> simp_all
      have hname' : fn.name ≠ "runtime.NumGoroutine" := by simpa using hname
      have hbn : fn.body ≠ none := by intro e; simp [e] at hbody
      simp [execOp, ho, resolve, hcal, hv, Deferred.ofValue, invoke, callFunc, hfn, hname', hnone, hbn]
    unfold Oper.wp
    rw [hrun]
    refine (hc E _ hfr hKy hH (vrs_append (vrs_append ⟨g1, g3⟩ hva) ⟨g2, g4⟩)).mono ?_
    intro e w' hR
    obtain ⟨v, y, K, E', rfl, rfl, hex, hh, hub, hvr, rfl, rfl⟩ := hR
    exact hK E' v hex hh hub hvr
  · next hcal =>
    split at h <;> try (simp at h; done)
    next y =>
    split at h <;> simp only [Option.some.injEq, reduceCtorEq, Prod.mk.injEq] at h
    next z hz =>
    obtain ⟨rfl, rfl, rfl⟩ := h
    obtain ⟨v, hv, hvr⟩ := vrs_one hva
    obtain ⟨h1, h2⟩ := clen_sound (P := P) (ty := o.type) hvr hz
    refine wp_val (v := toV z) (w' := E.w) ?_ (hK E _ (.refl E) hH .refl (toV_sound h2))
    simp [execOp, ho, resolve, hcal, invoke, builtin, hv, h1]
  · next hcal =>
    split at h <;> try (simp at h; done)
    next s y =>
    obtain ⟨v, u, hv, hs, hy⟩ := vrs_two hva
    obtain ⟨E', r, h1, h2, h3, h4, h5⟩ := cappend_sound hH (ty := o.type) hs hy h hfr
    refine wp_val (v := r) (w' := E'.w) ?_ (hK E' r h2 h3 h4 h5)
    simp [execOp, ho, resolve, hcal, invoke, builtin, hv, h1]
  · next hcal =>
    split at h <;> try (simp at h; done)
    next s y =>
    obtain ⟨v, u, hv, hs, hy⟩ := vrs_two hva
    obtain ⟨E', r, h1, h2, h3, h4, h5⟩ := ccopy_sound hH (ty := o.type) hs hy h
    refine wp_val (v := r) (w' := E'.w) ?_ (hK E' r h2 h3 h4 h5)
    simp [execOp, ho, resolve, hcal, invoke, builtin, hv, h1]
  · next hcal =>
    split at h <;> try (simp at h; done)
    next y r =>
    split at h <;> simp only [Option.some.injEq, reduceCtorEq, Prod.mk.injEq] at h
    next z hz =>
    obtain ⟨rfl, rfl, rfl⟩ := h
    obtain ⟨v, us, hv, hvr, hrest⟩ := vrs_cons hva
    obtain ⟨h1, h2⟩ := cminmax_sound (P := P) true r y z v us hvr hrest hz
    simp only [if_true] at h1
    refine wp_val (v := toV z) (w' := E.w) ?_ (hK E _ (.refl E) hH .refl (toV_sound h2))
    have hv' : (c.args.toList.map a.eval) = v :: us := by rw [← hv]; simp
    simp [execOp, ho, resolve, hcal, invoke, builtin, Builtin.max_, hv', h1]
  · next hcal =>
    split at h <;> try (simp at h; done)
    next y r =>
    split at h <;> simp only [Option.some.injEq, reduceCtorEq, Prod.mk.injEq] at h
    next z hz =>
    obtain ⟨rfl, rfl, rfl⟩ := h
    obtain ⟨v, us, hv, hvr, hrest⟩ := vrs_cons hva
    obtain ⟨h1, h2⟩ := cminmax_sound (P := P) false r y z v us hvr hrest hz
    simp only [Bool.false_eq_true, if_false] at h1
    refine wp_val (v := toV z) (w' := E.w) ?_ (hK E _ (.refl E) hH .refl (toV_sound h2))
    have hv' : (c.args.toList.map a.eval) = v :: us := by rw [← hv]; simp
    simp [execOp, ho, resolve, hcal, invoke, builtin, Builtin.min_, hv', h1]
  · simp at h

theorem cop_sound {call : Call} (hS : Sound P call) {o : Oper} {tm : CTm} {H H' : CHeap} {n n' lo : Nat} {x : CV} {E : Env} {a : Act} (hH : HR E H) (hKy : Keys H n) (hT : TR E tm a)
    (h : cop P call o.op tm H n lo = some (x, H', n')) (hfr : Fr E n n') {next : Act → World → Prop} {Q : Exit → Act → World → Prop} (hL : LetsGo Q)
    (hK : ∀ E' v, Ex E E' → HR E' H' → UB E E' n n' → VR E' x v → next (a.put o.dst v) E'.w) : o.wp P a E.w next Q := by
  have pureK : ∀ {y : Option CV} {v : Value}, (match y with | some v => some (v, H, n) | none => none) = some (x, H', n') → (∀ z, y = some z → VR E z v) → (execOp a.eval o).run P E.w = .ok (.value v) E.w → o.wp P a E.w next Q := by
    intro y v hy hv hrun
    cases y with
    | none => simp at hy
    | some z =>
      simp only [Option.some.injEq, Prod.mk.injEq] at hy
      obtain ⟨rfl, rfl, rfl⟩ := hy
      exact wp_val hrun (hK E v (.refl E) hH .refl (hv z rfl))
  have pureR : ∀ {y : Option CV} {s : Sem Value}, (match y with | some v => some (v, H, n) | none => none) = some (x, H', n') → (∀ z, y = some z → ∃ v, s.run P E.w = .ok v E.w ∧ VR E z v) → execOp a.eval o = (do pure (Next.value (← s))) → o.wp P a E.w next Q := by
    intro y s hy hv hrun
    cases y with
    | none => simp at hy
    | some z =>
      obtain ⟨v, h1, h2⟩ := hv z rfl
      exact pureK (y := some z) (v := v) hy (fun z' hz' => by cases hz'; exact h2) (by rw [hrun]; exact run_v h1)
  unfold cop at h
  split at h
  · next y ho => exact pureK h (fun z hz => cval_sound hT hz) (by simp [execOp, ho])
  · next y ho => exact pureK h (fun z hz => cval_sound hT hz) (by simp [execOp, ho])
  · next c p q ho =>
    split at h <;> try (simp at h; done)
    · next hc =>
      have := cval_sound hT hc
      generalize hv : a.eval c = v at this
      cases this
      exact pureK h (fun z hz => cval_sound hT hz) (by simp [execOp, ho, hv, asBool])
    · next hc =>
      have := cval_sound hT hc
      generalize hv : a.eval c = v at this
      cases this
      exact pureK h (fun z hz => cval_sound hT hz) (by simp [execOp, ho, hv, asBool])
  · next t ho =>
    split at h <;> simp only [Option.some.injEq, reduceCtorEq, Prod.mk.injEq] at h
    next z hz =>
    obtain ⟨rfl, rfl, rfl⟩ := h
    obtain ⟨zv, h1, h2⟩ := czero_cr (E := E) hz
    have hkn : ¬ E.U n := hfr n (Nat.le_refl _) (by omega)
    refine wp_val (w' := (E.alloc n (.cells zv.cells t)).w) ?_ (hK _ _ (alloc_ex hH hkn) (alloc_hr hH hkn (Nat.le_of_eq h2.1.symm) h2.2) alloc_ub alloc_vr)
    simp [execOp, ho, Instr.alloc, h1, newVar, newRow, Env.alloc]
  · next t y ho =>
    split at h <;> simp only [Option.some.injEq, reduceCtorEq, Prod.mk.injEq] at h
    next z hz =>
    obtain ⟨rfl, rfl, rfl⟩ := h
    obtain ⟨c1, c2⟩ := cells_sound (cval_sound hT hz)
    have hkn : ¬ E.U n := hfr n (Nat.le_refl _) (by omega)
    refine wp_val (w' := (E.alloc n (.cells (a.eval y).cells t)).w) ?_ (hK _ _ (alloc_ex hH hkn) (alloc_hr hH hkn (Nat.le_of_eq c1.symm) c2) alloc_ub alloc_vr)
    simp [execOp, ho, Instr.box, newVar, newRow, Env.alloc]
  · next t parts ho =>
    split at h <;> try (simp at h; done)
    next ps hps =>
    have hp := cparts_sound hT hps
    refine pureR h (fun z hz => cbuild_sound (qs := parts.map fun (i, x) => (i, a.eval x)) (by simpa using hp) hz) (by simp only [execOp, ho])
  · next t len parts ho =>
    split at h <;> try (simp at h; done)
    next ps hps =>
    have hp := cparts_sound hT hps
    obtain ⟨E', r, h1, h2, h3, h4, h5⟩ := cbuildSlice_sound hH (qs := parts.map fun (i, x) => (i, a.eval x)) (by simpa using hp) h hfr
    exact wp_val (by simp only [execOp, ho]; exact run_v h1) (hK E' r h2 h3 h4 h5)
  · next t y ho =>
    split at h <;> try (simp at h; done)
    next p hp =>
    exact pureR h (fun z hz => cload_sound hH (cval_sound hT hp) hz) (by simp only [execOp, ho])
  · next t p y ho =>
    split at h <;> try (simp at h; done)
    next b off z s hp hz hs =>
    split at h <;> try (simp at h; done)
    next blk hg =>
    split at h <;> simp only [Option.some.injEq, reduceCtorEq, Prod.mk.injEq] at h
    next hcond =>
    simp only [Bool.and_eq_true] at hcond
    obtain ⟨rfl, rfl, rfl⟩ := h
    have hl1 := Nat.eq_of_beq_eq_true hcond.1.1.2
    have hl2 := Nat.le_of_ble_eq_true hcond.1.2
    obtain ⟨r, hr, hbr⟩ := hH.get b blk hg
    obtain ⟨c1, c2⟩ := cells_sound (cval_sound hT hz)
    have hpv := cval_sound hT hp
    generalize hv : a.eval p = v at hpv
    cases hpv with
    | ptr _ _ ad g1 g2 =>
    obtain rfl := g2 r hr
    obtain ⟨E', s1, s2, s3, s4, s5, s6⟩ := storeCells_sound (P := P) z.cells (i := 0) (o := off) hH hg hr (vs := (a.eval y).cells.toList) (by omega) (by simpa using c1)
      (fun j x v hx hv => c2 j x v hx (by simpa using hv)) hcond.2
    have hrun : (execOp a.eval o).run P E.w = .ok .skip E'.w := by
      have hne : ¬ ((a.eval y).cells.size ≠ s) := by rw [c1, hl1]; simp
      simp [execOp, ho, hv, Instr.storeAt, Instr.sureAddr, storeVar, run_sizeOf' _ hs, s1, c1, hl1]
    unfold Oper.wp
    rw [hrun]
    exact hK E' undef s2 s3 (.of_eq s5) (.tup [] #[] rfl (fun i x v hx => by simp at hx))
  · next y ho =>
    split at h <;> try (simp at h; done)
    next z hz =>
    split at h <;> simp only [Option.some.injEq, reduceCtorEq, Prod.mk.injEq] at h
    next hlive =>
    obtain ⟨rfl, rfl, rfl⟩ := h
    have hv := cval_sound hT hz
    refine wp_val (v := a.eval y) (w' := E.w) ?_ (hK E _ (.refl E) hH .refl hv)
    generalize hu : a.eval y = u at hv
    unfold isLive at hlive
    split at hlive <;> try (simp at hlive; done)
    · cases hv; simp [execOp, ho, hu]
    · cases hv; simp [execOp, ho, hu]
    · cases hv; simp [execOp, ho, hu]
  · next op t p q t' ho =>
    split at h <;> try (simp at h; done)
    next y z hy hz =>
    cases hb : cbin P op t y z with
    | none => rw [hb] at h; simp at h
    | some r =>
    rw [hb] at h
    obtain ⟨h1, h2, h3⟩ := cbin_sound (P := P) (w := E.w) (xo := p) (yo := q) (cval_sound hT hy) (cval_sound hT hz) hb
    refine pureK (y := some r) h (v := toV r) (fun z' hz' => by cases hz'; exact toV_sound h3) ?_
    simp [execOp, ho, h1, h2]
  · next op t p ho =>
    split at h <;> try (simp at h; done)
    next y hy =>
    cases hb : cun op y with
    | none => rw [hb] at h; simp at h
    | some r =>
    rw [hb] at h
    obtain ⟨h2, h3⟩ := cun_sound (P := P) (w := E.w) (cval_sound hT hy) hb
    refine pureK (y := some r) h (v := toV r) (fun z' hz' => by cases hz'; exact toV_sound h3) ?_
    simp [execOp, ho, h2]
  · next s d p ho =>
    split at h <;> try (simp at h; done)
    next y hy =>
    obtain ⟨E', r, h1, h2, h3, h4, h5⟩ := cconvert_sound hH (cval_sound hT hy) h hfr
    exact wp_val (by simp only [execOp, ho]; exact run_v h1) (hK E' r h2 h3 h4 h5)
  · next f first captured ho =>
    split at h <;> simp only [Option.some.injEq, reduceCtorEq, Prod.mk.injEq] at h
    next y z hy hz =>
    obtain ⟨rfl, rfl, rfl⟩ := h
    obtain ⟨a1, a2⟩ := cvals_vrs hT hy
    obtain ⟨b1, b2⟩ := cvals_vrs hT hz
    refine wp_val (v := .func f (first.map a.eval) (captured.map a.eval)) (w' := E.w) ?_ (hK E _ (.refl E) hH .refl (.fn f y z _ _ a1 b1 a2 b2))
    simp [execOp, ho, Instr.makeFunc]
  · next t l c ho =>
    split at h <;> try (simp at h; done)
    next y z hy hz =>
    obtain ⟨E', r, h1, h2, h3, h4, h5⟩ := cmakeSlice_sound hH (cval_sound hT hy) (cval_sound hT hz) h hfr
    exact wp_val (by simp only [execOp, ho]; exact run_v h1) (hK E' r h2 h3 h4 h5)
  · next t p lo hi mx ho =>
    split at h <;> try (simp at h; done)
    next y l hh m hy hl hhi hm =>
    exact pureR h (fun z hz => cslice_sound hH (cval_sound hT hy) (optVal_sound hT hl) (optVal_sound hT hhi) (optVal_sound hT hm) hz) (by simp only [execOp, ho])
  · next t p f ho =>
    split at h <;> try (simp at h; done)
    next y hy =>
    exact pureR h (fun z hz => cfieldAddr_sound (cval_sound hT hy) hz) (by simp only [execOp, ho])
  · next t p f ho =>
    split at h <;> try (simp at h; done)
    next y hy =>
    exact pureR h (fun z hz => cfield_sound (cval_sound hT hy) hz) (by simp only [execOp, ho])
  · next t p i ho =>
    split at h <;> try (simp at h; done)
    next y z hy hz =>
    exact pureR h (fun z' hz' => cindexAddr_sound (cval_sound hT hy) (cval_sound hT hz) hz') (by simp only [execOp, ho])
  · next t p i ho =>
    split at h <;> try (simp at h; done)
    next y z hy hz =>
    exact pureR h (fun z' hz' => cindex_sound (cval_sound hT hy) (cval_sound hT hz) hz') (by simp only [execOp, ho])
  · next p i ho =>
    split at h <;> try (simp at h; done)
    next vs hy =>
    have hv := cval_sound hT hy
    generalize hu : a.eval p = u at hv
    cases hv with
    | tup _ us g1 g2 =>
    refine pureR h (s := Instr.extract (.tuple us) i) (fun z hz => ?_) (by simp only [execOp, ho, hu])
    obtain ⟨v, hv⟩ := get_of_rel hz g1
    exact ⟨v, by simp [Instr.extract, hv], g2 i z v hz hv⟩
  · next c ho => exact ccall_sound hS ho hH hKy hT h hfr hL hK
  · simp at h

end
end Go.Cn
