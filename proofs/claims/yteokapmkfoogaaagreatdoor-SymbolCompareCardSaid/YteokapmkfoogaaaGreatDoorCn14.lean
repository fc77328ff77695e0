/- The canonical calculus, part 14: from steps to calls. -/
import Derived.Test.YteokapmkfoogaaaGreatDoorCn13
set_option linter.unusedVariables false
set_option linter.unusedSimpArgs false
noncomputable section
namespace Go.Cn

section
variable {P : Program}

/-- how a function that began in E0 ends. From n0 to top - 1: the numbers of its own blocks -/
def Fin (E0 : Env) (n0 top : Nat) (Q : CV → CHeap → Prop) (e : Ending) (w' : World) : Prop :=
  ∃ v x H' E', e = .returned v ∧ E'.w = w' ∧ Ex E0 E' ∧ HR E' H' ∧ UB E0 E' n0 top ∧ VR E' x v ∧ Q x H'

/-- from this list of things to do, in this canonical state, the function comes to its end, with Q -/
def Goes (P : Program) (f : FuncId) (N n0 top : Nat) (todo : List Item) (cs : CS) (Q : CV → CHeap → Prop) : Prop :=
  ∀ (E0 E : Env) (a : Act) (b : Frame) (callers : List Frame), b.fn = f → b.kind = .normal → Fr E0 n0 top → Ex E0 E → UB E0 E n0 top → Rel N E cs a → Fr E cs.n top →
    ∃ e w' fr, Fin E0 n0 top Q e w' ∧ Comes P (lone (b.at a todo) callers E.w) (lone fr callers w') e ∧ fr.fn = f ∧ fr.leaving P w' e

theorem goes_step {f : FuncId} {N n0 top : Nat} {todo todo' : List Item} {cs : CS} {Q : CV → CHeap → Prop} (hs : ∀ (E : Env) (a : Act) (b : Frame) (callers : List Frame), Rel N E cs a → step P (lone (b.at a todo) callers E.w) = .next (lone (b.at a todo') callers E.w))
    (h : Goes P f N n0 top todo' cs Q) : Goes P f N n0 top todo cs Q := by
  intro E0 E a b callers h1 h2 h3 h4 h5 h6 h7
  obtain ⟨e, w', fr, q1, q2, q3, q4⟩ := h E0 E a b callers h1 h2 h3 h4 h5 h6 h7
  exact ⟨e, w', fr, q1, Comes.of_steps (.one (hs E a b callers h6)) q2, q3, q4⟩

/-- a piece of code that takes the one canonical state to the other -/
def Takes (P : Program) (N : Nat) (c : Code) (cs cs' : CS) : Prop :=
  cs.n ≤ cs'.n ∧ ∀ (E : Env) (a : Act) (Q : Exit → Act → World → Prop), Rel N E cs a → Fr E cs.n cs'.n → LetsGo Q → (∀ E' a', Ex E E' → UB E E' cs.n cs'.n → Rel N E' cs' a' → Q .normal a' E'.w) → c.wp P Q a E.w

theorem goes_takes {f : FuncId} {N n0 top : Nat} {c : Code} {k : List Item} {cs cs' : CS} {Q : CV → CHeap → Prop} (hc : Takes P N c cs cs') (hn : n0 ≤ cs.n) (ht : cs'.n ≤ top) (h : Goes P f N n0 top k cs' Q) :
    Goes P f N n0 top (.code c :: k) cs Q := by
  intro E0 E a b callers h1 h2 h3 h4 h5 h6 h7
  obtain ⟨hle, hc⟩ := hc
  have hw := hc E a (fun e a' w' => ∃ E', e = .normal ∧ E'.w = w' ∧ Ex E E' ∧ UB E E' cs.n cs'.n ∧ Rel N E' cs' a') h6 (h7.mono (Nat.le_refl _) ht) trivial (fun E' a' e1 e2 e3 => ⟨E', rfl, rfl, e1, e2, e3⟩) b k callers
  obtain ⟨e, a', w', hq, harr⟩ := hw
  obtain ⟨E', rfl, rfl, e1, e2, e3⟩ := hq
  · have hub : UB E0 E' n0 top := by
      intro j hj
      rcases e2 j hj with g | g
      · exact h5 j g
      · exact .inr ⟨by omega, by omega⟩
    obtain ⟨e, w', fr, q1, q2, q3, q4⟩ := h E0 E' a' b callers h1 h2 h3 (h4.trans e1) hub e3 (h7.next e2 hle)
    exact ⟨e, w', fr, q1, Comes.of_steps harr q2, q3, q4⟩

theorem cstep_region {call : Call} (hS : Sound P call) {N lo id : Nat} {ops : Array Oper} {cs cs' : CS} (h : cops P call N lo ops ops.toList cs = some cs') : Takes P N (.region id ops false) cs cs' := by
  refine ⟨(cops_keeps hS _ _ _ h).1, fun E a Q hR hfr hL hK => wp_region ?_⟩
  have := cops_sound hS ops.toList 0 cs cs' E a rfl h hR hfr Q hL hK
  rwa [List.range_eq_range', ← Array.length_toList]

theorem cstep_keeps {call : Call} (hS : Sound P call) {N lo : Nat} {todo todo' : List Item} {cs cs' : CS} (h : cstep P call N lo todo cs = some (todo', cs')) : Keeps cs.H cs'.H cs.n cs'.n lo := by
  unfold cstep at h
  split at h <;> try (simp only [Option.some.injEq, Prod.mk.injEq, reduceCtorEq] at h)
  all_goals try (obtain ⟨rfl, rfl⟩ := h; exact .refl)
  · split at h <;> try (simp at h; done)
    split at h <;> (simp only [Option.some.injEq, Prod.mk.injEq] at h; obtain ⟨rfl, rfl⟩ := h; exact .refl)
  · split at h <;> simp only [Option.some.injEq, Prod.mk.injEq, reduceCtorEq] at h
    obtain ⟨rfl, rfl⟩ := h; exact .refl
  · split at h <;> simp only [Option.some.injEq, Prod.mk.injEq, reduceCtorEq] at h
    obtain ⟨rfl, rfl⟩ := h; exact .refl
  · split at h <;> simp only [Option.some.injEq, Prod.mk.injEq, reduceCtorEq] at h
    next hc => obtain ⟨rfl, rfl⟩ := h; exact cops_keeps hS _ _ _ hc

theorem eval_bool {E : Env} {tm : CTm} {a : Act} {o : Operand} {b : Bool} (hT : TR E tm a) (h : cval tm o = some (.bool b)) : a.eval o = .bool b := by
  have hv := cval_sound hT h
  generalize a.eval o = u at hv ⊢
  cases hv; rfl

theorem goes_cstep {call : Call} (hS : Sound P call) {f : FuncId} {N lo n0 top : Nat} {todo todo' : List Item} {cs cs' : CS} {Q : CV → CHeap → Prop} (h : cstep P call N lo todo cs = some (todo', cs'))
    (hn : n0 ≤ cs.n) (ht : cs'.n ≤ top) (hg : Goes P f N n0 top todo' cs' Q) : Goes P f N n0 top todo cs Q := by
  unfold cstep at h
  split at h
  · simp only [Option.some.injEq, Prod.mk.injEq] at h; obtain ⟨rfl, rfl⟩ := h; exact goes_step (fun E a b cl hR => step_skip) hg
  · simp only [Option.some.injEq, Prod.mk.injEq] at h; obtain ⟨rfl, rfl⟩ := h; exact goes_step (fun E a b cl hR => step_label) hg
  · simp only [Option.some.injEq, Prod.mk.injEq] at h; obtain ⟨rfl, rfl⟩ := h; exact goes_step (fun E a b cl hR => step_inBlock) hg
  · simp only [Option.some.injEq, Prod.mk.injEq] at h; obtain ⟨rfl, rfl⟩ := h
    exact goes_step (fun E a b cl hR => step_lone_go (by simp [stepG, stepG.exec, Frame.at])) hg
  · simp only [Option.some.injEq, Prod.mk.injEq] at h; obtain ⟨rfl, rfl⟩ := h; exact goes_step (fun E a b cl hR => step_seq) hg
  · split at h <;> try (simp at h; done)
    next b hc =>
    cases b
    · simp only [Option.some.injEq, Prod.mk.injEq] at h; obtain ⟨rfl, rfl⟩ := h
      exact goes_step (fun E a b' cl hR => (step_cond (eval_bool hR.tmps hc)).trans rfl) hg
    · simp only [Option.some.injEq, Prod.mk.injEq] at h; obtain ⟨rfl, rfl⟩ := h
      exact goes_step (fun E a b' cl hR => (step_cond (eval_bool hR.tmps hc)).trans rfl) hg
  · simp only [Option.some.injEq, Prod.mk.injEq] at h; obtain ⟨rfl, rfl⟩ := h; exact goes_step (fun E a b cl hR => step_block) hg
  · simp only [Option.some.injEq, Prod.mk.injEq] at h; obtain ⟨rfl, rfl⟩ := h; exact goes_step (fun E a b cl hR => step_loop) hg
  · simp only [Option.some.injEq, Prod.mk.injEq] at h; obtain ⟨rfl, rfl⟩ := h; exact goes_step (fun E a b cl hR => step_inLoop) hg
  · simp only [Option.some.injEq, Prod.mk.injEq] at h; obtain ⟨rfl, rfl⟩ := h
    exact goes_step (fun E a b cl hR => step_lone_go (by simp [stepG, stepG.exec, Frame.at])) hg
  · split at h <;> simp only [Option.some.injEq, Prod.mk.injEq, reduceCtorEq] at h
    next k' hk => obtain ⟨rfl, rfl⟩ := h; exact goes_step (fun E a b cl hR => step_exit hk) hg
  · split at h <;> simp only [Option.some.injEq, Prod.mk.injEq, reduceCtorEq] at h
    next k' hk => obtain ⟨rfl, rfl⟩ := h; exact goes_step (fun E a b cl hR => step_goto hk) hg
  · split at h <;> simp only [Option.some.injEq, Prod.mk.injEq, reduceCtorEq] at h
    next hc => obtain ⟨rfl, rfl⟩ := h; exact goes_takes (cstep_region hS hc) hn ht hg
  · simp at h

/-! ### the results -/
def resVal (tmps : Array Value) : ResultVar → Sem Value
  | .tmp t => pure (tmps.getD t undef)
  | .cell a t => do loadVar t (← asAddr (tmps.getD a undef))

theorem results_eq (fn : Func) (tmps : Array Value) : results fn tmps = (do let vs ← fn.results.mapM (resVal tmps); pure (if h : vs.size = 1 then vs[0] else .tuple vs)) := by
  unfold results
  congr 1

theorem cresults_sound {E : Env} {H : CHeap} (hH : HR E H) {tm : CTm} {a : Act} (hT : TR E tm a) : ∀ (l : List ResultVar) (xs : List CV), cresults tm P H l = some xs →
    ∃ vs : List Value, (l.mapM (resVal a.tmps)).run P E.w = .ok vs E.w ∧ vs.length = xs.length ∧ ∀ (i : Nat) x v, xs[i]? = some x → vs[i]? = some v → VR E x v := by
  intro l
  induction l with
  | nil => intro xs h; simp [cresults] at h; subst h; exact ⟨[], by simp, rfl, fun i x v hx => by simp at hx⟩
  | cons r l ih =>
    have key : ∀ (x : CV) (v : Value) (xs ys : List CV), VR E x v → xs = x :: ys → (resVal a.tmps r).run P E.w = .ok v E.w → cresults tm P H l = some ys →
        ∃ vs : List Value, ((r :: l).mapM (resVal a.tmps)).run P E.w = .ok vs E.w ∧ vs.length = xs.length ∧ ∀ (i : Nat) x v, xs[i]? = some x → vs[i]? = some v → VR E x v := by
      rintro x v xs ys hv rfl hr hys
      obtain ⟨vs, h1, h2, h3⟩ := ih ys hys
      refine ⟨v :: vs, by simp [List.mapM_cons, hr, h1], by simp [h2], fun i y u hy hu => ?_⟩
      cases i with
      | zero => simp at hy hu; subst hy; subst hu; exact hv
      | succ i => exact h3 i y u hy hu
    intro xs h
    cases r with
    | tmp t =>
      simp only [cresults] at h
      split at h <;> simp only [Option.some.injEq, reduceCtorEq] at h
      next x ys hx hys => exact key x _ xs ys (hT t x hx) h.symm (by simp [resVal]) hys
    | cell c t =>
      simp only [cresults] at h
      split at h <;> try (simp at h; done)
      next p hp =>
      split at h <;> simp only [Option.some.injEq, reduceCtorEq] at h
      next x ys hx hys =>
      have hpv := hT c p hp
      generalize hu : a.tmps.getD c undef = u at hpv
      obtain ⟨v, h1, h2⟩ := cload_sound (P := P) hH hpv hx
      refine key x v xs ys h2 h.symm ?_ hys
      simp only [resVal, hu]
      cases u <;> simp [Instr.loadAt, Instr.sureAddr, asAddr] at h1 ⊢
      next ad => cases ad <;> simp [Instr.sureAddr, asAddr] at h1 ⊢; exact h1

theorem cresult_sound {E : Env} {H : CHeap} (hH : HR E H) {tm : CTm} {a : Act} (hT : TR E tm a) {fn : Func} {x : CV} (h : cresult tm P H fn = some x) : ∃ v, (results fn a.tmps).run P E.w = .ok v E.w ∧ VR E x v := by
  unfold cresult at h
  split at h
  · next y hy =>
    simp at h; subst h
    obtain ⟨vs, h1, h2, h3⟩ := cresults_sound (P := P) hH hT _ _ hy
    obtain ⟨v, rfl⟩ : ∃ v, vs = [v] := by
      cases vs with
      | nil => simp at h2
      | cons v vs => cases vs with | nil => exact ⟨v, rfl⟩ | cons => simp at h2
    refine ⟨v, ?_, h3 0 y v rfl rfl⟩
    rw [results_eq, Array.mapM_eq_mapM_toList]
    simp [h1]
  · next ys hne hy =>
    simp at h; subst h
    obtain ⟨vs, h1, h2, h3⟩ := cresults_sound (P := P) hH hT _ _ hy
    have hlen : vs.length ≠ 1 := by
      intro hl
      rw [h2] at hl
      match ys, hl with
      | [y], _ => exact hne y rfl
    refine ⟨.tuple vs.toArray, ?_, .tup _ _ (by simpa using h2) (fun i x v hx hv => h3 i x v hx (by simpa using hv))⟩
    rw [results_eq, Array.mapM_eq_mapM_toList]
    simp [h1, hlen]
  · simp at h

theorem goes_ret {f : FuncId} {fn : Func} (hf : P.funcs[f]? = some fn) {N n0 top : Nat} {todo : List Item} {cs : CS} {Q : CV → CHeap → Prop} {x : CV} (ht : cret todo = true) (hx : cresult cs.tm P cs.H fn = some x) (hq : Q x cs.H) :
    Goes P f N n0 top todo cs Q := by
  intro E0 E a b callers h1 h2 h3 h4 h5 h6 h7
  obtain ⟨v, hr, hv⟩ := cresult_sound (P := P) h6.heap h6.tmps hx
  unfold cret at ht
  split at ht
  · exact ⟨.returned v, E.w, _, ⟨v, x, cs.H, E, rfl, rfl, h4, h6.heap, h5, hv, hq⟩, .one step_end, h1, rfl, h6.defers, h2, fn, by rw [← h1] at hf; exact hf, hr⟩
  · exact ⟨.returned v, E.w, _, ⟨v, x, cs.H, E, rfl, rfl, h4, h6.heap, h5, hv, hq⟩, .one step_ret, h1, rfl, h6.defers, h2, fn, by rw [← h1] at hf; exact hf, hr⟩
  · simp at ht

/-! ### entering a function -/
def argTm : List CV → Nat → CTm → CTm
  | [], _, tm => tm
  | x :: xs, i, tm => argTm xs (i + 1) ((i, x) :: tm)

theorem argTm_get : ∀ (xs : List CV) (i : Nat) (tm : CTm) (t : Nat) (y : CV), tget (argTm xs i tm) t = some y → (i ≤ t ∧ xs[t - i]? = some y) ∨ (¬ (i ≤ t ∧ t < i + xs.length) ∧ tget tm t = some y)
  | [], i, tm, t, y, h => .inr ⟨by simp, h⟩
  | x :: xs, i, tm, t, y, h => by
    simp only [argTm] at h
    rcases argTm_get xs (i + 1) _ t y h with ⟨h1, h2⟩ | ⟨h1, h2⟩
    · refine .inl ⟨by omega, ?_⟩
      rw [show t - i = (t - (i + 1)) + 1 by omega]
      simpa using h2
    · simp only [tget_nil, tget_cons] at h2
      by_cases e : i = t
      · subst e
        simp at h2
        exact .inl ⟨Nat.le_refl _, by simp [h2]⟩
      · simp [e] at h2
        exact .inr ⟨by simp; omega, h2⟩

theorem hc_of_goes {f : FuncId} {fn : Func} {c : Code} (hf : P.funcs[f]? = some fn) (hb : fn.body = some c) {args : List CV} {H : CHeap} {n top : Nat} {Q : CV → CHeap → Prop} (hl : args.length ≤ fn.ntmps)
    (h : Goes P f fn.ntmps n top [.code c] ⟨argTm args 0 [], H, n⟩ Q) : HC P f args H n top Q := by
  intro E vs hfr hKy hH hv cs
  let b : Frame := { (default : Frame) with fn := f, kind := .normal }
  have henter : Frame.enter P f vs .normal = b.at { tmps := vs ++ Array.replicate (fn.ntmps - vs.size) undef, defers := [] } [.code c] := by
    simp [Frame.enter, Frame.at, hf, hb, b]
  have hR : Rel fn.ntmps E ⟨argTm args 0 [], H, n⟩ { tmps := vs ++ Array.replicate (fn.ntmps - vs.size) undef, defers := [] } := by
    refine ⟨hH, hKy, fun t x hx => ?_, by simp [hv.1]; omega, rfl⟩
    rcases argTm_get args 0 [] t x hx with ⟨_, h2⟩ | ⟨_, h2⟩
    · have hlt : t < args.length := by
        rcases Nat.lt_or_ge t args.length with h' | h'
        · exact h'
        · rw [List.getElem?_eq_none (by simpa using h')] at h2; simp at h2
      have hlt' : t < vs.size := by rw [hv.1]; exact hlt
      have : (vs ++ Array.replicate (fn.ntmps - vs.size) undef).getD t undef = vs[t] := by
        rw [Array.getD_eq_getD_getElem?, Array.getElem?_append_left hlt']
        simp [hlt']
      rw [this]
      exact hv.2 t x _ (by simpa using h2) (Array.getElem?_eq_getElem hlt')
    · simp [tget_nil, tget_cons] at h2
  obtain ⟨e, w', fr, q1, q2, q3, q4⟩ := h E E _ b cs rfl rfl hfr (.refl E) .refl hR hfr
  rw [← henter] at q2
  exact ⟨e, w', fr, q1, q2, q3, q4⟩

end
end Go.Cn
