/- The canonical calculus, part 19: running whole functions; contracts on data alone. -/
import Derived.Test.YteokapmkfoogaaaGreatDoorCn18
set_option linter.unusedVariables false
set_option linter.unusedSimpArgs false
noncomputable section
namespace Go.Cn

/-- a step, drawn regions too -/
def cstepD (P : Program) (call : Call) (N lo : Nat) (todo : List Item) (cs : CS) : Option (List Item × CS) :=
  match todo with
  | .code (.region _ ops true) :: k => match cdraw P call N lo ops cs with
    | some cs' => some (k, cs')
    | none => none
  | todo => cstep P call N lo todo cs

/-- to the function's end -/
def crunF (P : Program) (call : Call) (fn : Func) (lo : Nat) : Nat → List Item → CS → Option (CV × CHeap × Nat)
  | 0, _, _ => none
  | f + 1, todo, cs =>
    match cret todo with
    | true => match cresult cs.tm P cs.H fn with | some v => some (v, cs.H, cs.n) | none => none
    | false => match cstepD P call fn.ntmps lo todo cs with
      | some (todo', cs') => crunF P call fn lo f todo' cs'
      | none => none

/-- a call, its calls too: 'd' deep, each of at most 'fuel' steps -/
def evalCall (P : Program) (fuel : Nat) : Nat → Call
  | 0, _, _, _, _, _ => none
  | d + 1, f, args, H, n, lo => match P.funcs[f]? with
    | some fn => match fn.body with
      | some c => if Nat.ble args.length fn.ntmps then crunF P (evalCall P fuel d) fn lo fuel [.code c] ⟨argTm args 0 [], H, n⟩ else none
      | none => none
    | none => none

section
variable {P : Program}

def NoNum (P : Program) : Prop := ∀ (f : Nat) (fn : Func), P.funcs[f]? = some fn → (fn.name == "runtime.NumGoroutine") = false

theorem noNum_of (h : P.funcs.toList.all (fun fn => !(fn.name == "runtime.NumGoroutine")) = true) : NoNum P := by
  intro f fn hf
  rw [List.all_eq_true] at h
  have := h fn (by have := Array.mem_of_getElem? hf; simpa using this)
  simpa using this

theorem cstepD_keeps {call : Call} (hS : Sound P call) {N lo : Nat} {todo todo' : List Item} {cs cs' : CS} (h : cstepD P call N lo todo cs = some (todo', cs')) : Keeps cs.H cs'.H cs.n cs'.n lo := by
  unfold cstepD at h
  split at h
  · split at h <;> simp only [Option.some.injEq, Prod.mk.injEq, reduceCtorEq] at h
    next hc => obtain ⟨rfl, rfl⟩ := h; exact cdraw_keeps hS hc
  · exact cstep_keeps hS h

theorem goes_cstepD {call : Call} (hS : Sound P call) {f : FuncId} {N lo n0 top : Nat} {todo todo' : List Item} {cs cs' : CS} {Q : CV → CHeap → Prop} (h : cstepD P call N lo todo cs = some (todo', cs'))
    (hn : n0 ≤ cs.n) (ht : cs'.n ≤ top) (hg : Goes P f N n0 top todo' cs' Q) : Goes P f N n0 top todo cs Q := by
  unfold cstepD at h
  split at h
  · split at h <;> simp only [Option.some.injEq, Prod.mk.injEq, reduceCtorEq] at h
    next hc =>
    obtain ⟨rfl, rfl⟩ := h
    intro E0 E a b callers h1 h2 h3 h4 h5 h6 h7
    exact goes_takes (cdraw_takes hS hc h6.keys) hn ht hg E0 E a b callers h1 h2 h3 h4 h5 h6 h7
  · exact goes_cstep hS h hn ht hg

theorem crunF_keeps {call : Call} (hS : Sound P call) {fn : Func} {lo : Nat} : ∀ (fuel : Nat) (todo : List Item) (cs : CS) (x : CV) (H' : CHeap) (n' : Nat), crunF P call fn lo fuel todo cs = some (x, H', n') → Keeps cs.H H' cs.n n' lo := by
  intro fuel
  induction fuel with
  | zero => intro todo cs x H' n' h; simp [crunF] at h
  | succ fuel ih =>
    intro todo cs x H' n' h
    simp only [crunF] at h
    split at h
    · split at h <;> simp only [Option.some.injEq, Prod.mk.injEq, reduceCtorEq] at h
      obtain ⟨rfl, rfl, rfl⟩ := h; exact .refl
    · split at h <;> try (simp at h; done)
      next todo' cs' hc => exact (cstepD_keeps hS hc).trans (ih _ _ _ _ _ h)

theorem crunF_goes {call : Call} (hS : Sound P call) {f : FuncId} {fn : Func} (hf : P.funcs[f]? = some fn) {lo n0 : Nat} : ∀ (fuel : Nat) (todo : List Item) (cs : CS) (x : CV) (H' : CHeap) (n' : Nat), crunF P call fn lo fuel todo cs = some (x, H', n') → n0 ≤ cs.n →
    Goes P f fn.ntmps n0 n' todo cs fun y K => y = x ∧ K = H' := by
  intro fuel
  induction fuel with
  | zero => intro todo cs x H' n' h; simp [crunF] at h
  | succ fuel ih =>
    intro todo cs x H' n' h hn
    simp only [crunF] at h
    split at h
    · next hr =>
      split at h <;> simp only [Option.some.injEq, Prod.mk.injEq, reduceCtorEq] at h
      next v hv =>
      obtain ⟨rfl, rfl, rfl⟩ := h
      exact goes_ret hf hr hv ⟨rfl, rfl⟩
    · split at h <;> try (simp at h; done)
      next todo' cs' hc =>
      have hk := cstepD_keeps hS hc
      have hk2 := crunF_keeps hS _ _ _ _ _ _ h
      exact goes_cstepD hS hc hn hk2.1 (ih _ _ _ _ _ h (Nat.le_trans hn hk.1))

theorem evalCall_sound (hN : NoNum P) (fuel : Nat) : ∀ d, Sound P (evalCall P fuel d) := by
  intro d
  induction d with
  | zero => intro f args H n lo x H' n' h; simp [evalCall] at h
  | succ d ih =>
    intro f args H n lo x H' n' h
    simp only [evalCall] at h
    split at h <;> try (simp at h; done)
    next fn hf =>
    split at h <;> try (simp at h; done)
    next c hb =>
    split at h <;> try (simp at h; done)
    next hl =>
    exact ⟨⟨fn, hf, by rw [hb]; rfl, hN f fn hf⟩, crunF_keeps ih _ _ _ _ _ _ h, hc_of_goes hf hb (Nat.le_of_ble_eq_true hl) (crunF_goes ih hf _ _ _ _ _ _ h (Nat.le_refl _))⟩

/-! ### contracts on data alone -/
structure Le (E E' : Env) : Prop where
  fwd : ∀ b r, E.ρ b = some r → E'.ρ b = some r
  I : ∀ r, E.I r → E'.I r ∧ E'.w.heap[r]? = E.w.heap[r]?
  sz : ∀ r, bsz E.w r ≤ bsz E'.w r

theorem Ex.le {E E' : Env} (h : Ex E E') : Le E E' := ⟨h.fwd, h.I, h.sz⟩

theorem VR.le {E E' : Env} {x : CV} {v : Value} (h : VR E x v) (l : Le E E') : VR E' x v := by
  have hU : ∀ b, E.U b → E'.U b ∧ ∀ r, E'.ρ b = some r → E.ρ b = some r := by
    intro b hb
    obtain ⟨r, hr⟩ := U_iff.1 hb
    refine ⟨U_iff.2 ⟨r, l.fwd b r hr⟩, fun r' hr' => ?_⟩
    rw [l.fwd b r hr] at hr'
    cases hr'; exact hr
  induction h with
  | bool b => exact .bool b
  | int k n => exact .int k n
  | str s => exact .str s
  | ptr b off ad hb hv => exact .ptr b off ad (hU b hb).1 fun r hr => hv r ((hU b hb).2 r hr)
  | nilptr => exact .nilptr
  | rop cells off r base vs hI hc _ ih => exact .rop cells off r base vs (l.I r hI).1 (fun j x hj => (cell_of_heap (l.I r hI).2).trans (hc j x hj)) ih
  | slice sz b off len cap ad cap' hb hv hl hc =>
    refine .slice sz b off len cap ad cap' (hU b hb).1 (fun r hr => ?_) hl hc
    obtain ⟨h1, h4⟩ := hv r ((hU b hb).2 r hr)
    exact ⟨h1, Nat.le_trans h4 (l.sz r)⟩
  | ro sz xs cap a cap' r o vs h1 h2 h3 h4 h5 _ ih =>
    refine .ro sz xs cap a cap' r o vs h1 h2 (fun hx => ⟨(h3 hx).1, (l.I r (h3 hx).2).1⟩) h4 (fun i j c x hi hj => ?_) ih
    have hx : xs ≠ [] := by rintro rfl; simp at hi
    exact (cell_of_heap (l.I r (h3 hx).2).2).trans (h5 i j c x hi hj)
  | fn f first captured fs cs h1 h2 _ _ ih1 ih2 => exact .fn f first captured fs cs h1 h2 ih1 ih2
  | nilfn => exact .nilfn
  | agg cs vs h1 _ ih => exact .agg cs vs h1 ih
  | tup cs vs h1 _ ih => exact .tup cs vs h1 ih

/-- speaks of no block by number -/
def Clean (x : CV) : Prop := ∀ (E : Env) (ρ' : Nat → Option Nat) (L' : Nat → Prop) (v : Value), VR E x v → VR { E with ρ := ρ', L := L' } x v

theorem clean_bool {b : Bool} : Clean (.bool b) := fun E ρ' L' v h => by cases h; exact .bool b
theorem clean_int {k : IntKind} {n : Int} : Clean (.int k n) := fun E ρ' L' v h => by cases h; exact .int k n
theorem clean_str {s : List UInt8} : Clean (.str s) := fun E ρ' L' v h => by cases h; exact .str s
theorem clean_agg {cs : List CV} (hc : ∀ x ∈ cs, Clean x) : Clean (.agg cs) := fun E ρ' L' v h => by
  cases h with
  | agg _ vs h1 h2 => exact .agg cs vs h1 fun i x v hx hv => hc x (List.mem_of_getElem? hx) E ρ' L' v (h2 i x v hx hv)
theorem clean_tup {cs : List CV} (hc : ∀ x ∈ cs, Clean x) : Clean (.tup cs) := fun E ρ' L' v h => by
  cases h with
  | tup _ vs h1 h2 => exact .tup cs vs h1 fun i x v hx hv => hc x (List.mem_of_getElem? hx) E ρ' L' v (h2 i x v hx hv)
theorem clean_ro {sz : Nat} {xs : List (List CV)} {cap : Option Nat} (hc : ∀ c ∈ xs, ∀ x ∈ c, Clean x) : Clean (.ro sz xs cap) := fun E ρ' L' v h => by
  cases h with
  | ro _ _ _ a cap' r o vs h1 h2 h3 h4 h5 h6 =>
    exact .ro sz xs cap a cap' r o vs h1 h2 h3 h4 h5 fun i j c x hi hj => hc c (List.mem_of_getElem? hi) x (List.mem_of_getElem? hj) E ρ' L' _ (h6 i j c x hi hj)

/-- the function takes these data to that datum, and writes nothing that was there -/
def PC (P : Program) (f : FuncId) (args : List CV) (x : CV) : Prop :=
  ∀ (E : Env) (vs : Array Value), Base E → VRs E args vs → Calls P f vs E.w fun e w' =>
    ∃ v E', e = .returned v ∧ E'.w = w' ∧ E'.ρ = E.ρ ∧ E'.L = E.L ∧ Ex E E' ∧ Base E' ∧ VR E' x v ∧ ∀ r, r < E.w.heap.size → w'.heap[r]? = E.w.heap[r]?

/-- all blocks of the calculus' own are given up for good -/
def Env.frozen (E : Env) : Env := { ρ := fun _ => none, L := fun _ => False, I := fun r => E.I r ∨ ∃ b, E.L b ∧ E.ρ b = some r, w := E.w }

/-- given up for good, y in K reads as x -/
def Frz (K : CHeap) (y x : CV) : Prop := ∀ (E : Env) (v : Value), HR E K → VR E y v → VR E.frozen x v

theorem frz_clean {K : CHeap} {x : CV} (hc : Clean x) : Frz K x x := by
  intro E v hH hv
  exact (hc E (fun _ => none) (fun _ => False) v hv).le ⟨fun b r h => by simp at h, fun r h => ⟨.inl h, rfl⟩, fun _ => Nat.le_refl _⟩

theorem frz_tup {K : CHeap} {ys xs : List CV} (hl : ys.length = xs.length) (h : ∀ (i : Nat) y x, ys[i]? = some y → xs[i]? = some x → Frz K y x) : Frz K (.tup ys) (.tup xs) := by
  intro E v hH hv
  cases hv with
  | tup _ vs h1 h2 =>
    refine .tup xs vs (by rw [h1, hl]) fun i x v hx hv => ?_
    have hlt : i < ys.length := by
      rcases Nat.lt_or_ge i xs.length with h' | h'
      · omega
      · rw [List.getElem?_eq_none h'] at hx; simp at hx
    exact h i ys[i] x (List.getElem?_eq_getElem hlt) hx E v hH (h2 i _ v (List.getElem?_eq_getElem hlt) hv)

theorem frz_agg {K : CHeap} {ys xs : List CV} (hl : ys.length = xs.length) (h : ∀ (i : Nat) y x, ys[i]? = some y → xs[i]? = some x → Frz K y x) : Frz K (.agg ys) (.agg xs) := by
  intro E v hH hv
  cases hv with
  | agg _ vs h1 h2 =>
    refine .agg xs vs (by rw [h1, hl]) fun i x v hx hv => ?_
    have hlt : i < ys.length := by
      rcases Nat.lt_or_ge i xs.length with h' | h'
      · omega
      · rw [List.getElem?_eq_none h'] at hx; simp at hx
    exact h i ys[i] x (List.getElem?_eq_getElem hlt) hx E v hH (h2 i _ v (List.getElem?_eq_getElem hlt) hv)

theorem frz_slice {K : CHeap} {sz b off len : Nat} {cap : Option Nat} {blk : List CV} {xs : List (List CV)} (hg : hget K b = some blk) (hl : xs.length = len) (hs : ∀ c ∈ xs, c.length = sz)
    (hx : ∀ (i j : Nat) c x, xs[i]? = some c → c[j]? = some x → ∃ y, blk[off + i * sz + j]? = some y ∧ Frz K y x) : Frz K (.slice sz b off len cap) (.ro sz xs none) := by
  intro E v hH hv
  cases hv with
  | slice _ _ _ _ _ ad cap' h1 h2 h3 h4 =>
    obtain ⟨r, hr, c', el, lo, hi, hc, hf, hs', hxx⟩ := hH.get b blk hg
    obtain ⟨rfl, hB⟩ := h2 r hr
    subst hl
    refine .ro sz xs none (some ⟨r, off, none⟩) cap' r off (fun i j => c'.getD (off + i * sz + j) undef) h3 (fun c hc => by simp at hc) (fun _ => ⟨rfl, .inr ⟨b, hH.live b blk hg, hr⟩⟩) hs (fun i j c x hi hj => ?_) (fun i j c x hi hj => ?_)
    · obtain ⟨y, hy, _⟩ := hx i j c x hi hj
      have hlt : off + i * sz + j < blk.length := by
        rcases Nat.lt_or_ge (off + i * sz + j) blk.length with h' | h'
        · exact h'
        · rw [List.getElem?_eq_none h'] at hy; simp at hy
      have : off + i * sz + j < c'.size := by omega
      show World.cell? E.w _ = _
      simp [World.cell?, hc, this]
    · obtain ⟨y, hy, hfz⟩ := hx i j c x hi hj
      have hlt : off + i * sz + j < blk.length := by
        rcases Nat.lt_or_ge (off + i * sz + j) blk.length with h' | h'
        · exact h'
        · rw [List.getElem?_eq_none h'] at hy; simp at hy
      have : off + i * sz + j < c'.size := by omega
      refine hfz E _ hH (hxx _ y _ hy ?_)
      simp [this]

theorem pc_of_hc {f : FuncId} {args : List CV} {top : Nat} {x : CV} {Q : CV → CHeap → Prop} (h : HC P f args [] 0 top Q) (hc : ∀ y ∈ args, Clean y) (hx : Clean x) (hq : ∀ y K, Q y K → Frz K y x) : PC P f args x := by
  intro E vs hB hv
  let E0 : Env := { ρ := fun _ => none, L := fun _ => False, I := E.I, w := E.w }
  have hH0 : HR E0 [] := ⟨fun b blk hb => by simp [hget_nil, hget_cons] at hb, fun b blk hb => by simp [hget_nil, hget_cons] at hb, fun b b' r l => l.elim, fun b r l => l.elim, hB.Ilt⟩
  have hv0 : VRs E0 args vs := ⟨hv.1, fun i y v hy hv' => hc y (List.mem_of_getElem? hy) E _ _ v (hv.2 i y v hy hv')⟩
  refine (h E0 vs (fun k _ _ hk => hk rfl) (fun b blk hb => by simp [hget_nil, hget_cons] at hb) hH0 hv0).mono ?_
  rintro e w' ⟨v, y, K, E1, rfl, rfl, hex, hh, hub, hvr, hQ⟩
  · have hout : ∀ r, r < E.w.heap.size → E1.w.heap[r]? = E.w.heap[r]? ∧ ∀ b, E1.L b → E1.ρ b ≠ some r := fun r hr => hex.out r hr (fun b l => l.elim)
    have hnew : ∀ r, E1.frozen.I r → E.I r ∨ E.w.heap.size ≤ r := by
      rintro r (h1 | ⟨b, hl, hb⟩)
      · rcases hex.newI r h1 with h2 | h2 | ⟨b, l, _⟩
        · exact .inl h2
        · exact .inr h2
        · exact l.elim
      · rcases Nat.lt_or_ge r E.w.heap.size with h2 | h2
        · exact absurd hb ((hout r h2).2 b hl)
        · exact .inr h2
    have hfz := hx _ E.ρ E.L v (hq y K hQ E1 v hh hvr)
    refine ⟨v, { ρ := E.ρ, L := E.L, I := E1.frozen.I, w := E1.w }, rfl, rfl, rfl, rfl, ⟨fun _ _ h => h, fun _ _ h => h, fun r hr => ⟨.inl (hex.I r hr).1, (hex.I r hr).2⟩, hex.sz, hex.grow,
      fun r hr hn => ⟨(hout r hr).1, hn⟩, fun r hr => (hnew r hr).imp id .inl, hex.io⟩, ⟨hB.inj, fun b r l hr => ?_, ?_⟩, hfz, fun r hr => (hout r hr).1⟩
    · obtain ⟨h1, h2⟩ := hB.lt b r l hr
      refine ⟨fun hI => ?_, Nat.lt_of_lt_of_le h2 hex.grow⟩
      rcases hnew r hI with g | g
      · exact h1 g
      · omega
    · rintro r (h1 | ⟨b, hl, hb⟩)
      · exact hh.Ilt r h1
      · exact (hh.lt b r hl hb).2

theorem hc_of_pc {f : FuncId} {args : List CV} {x : CV} (h : PC P f args x) (H : CHeap) (n : Nat) : HC P f args H n n fun y K => y = x ∧ K = H := by
  intro E vs hfr hky hH hv
  refine (h E vs hH.base hv).mono ?_
  rintro e w' ⟨v, E', rfl, rfl, hρ, hL, hex, hB, hvr, hold⟩
  · refine ⟨v, x, H, E', rfl, rfl, hex, hB.hr (fun b blk hb => ?_), .of_eq hρ, hvr, rfl, rfl⟩
    obtain ⟨r, hr, c, el, lo, hi, hc, hf, hs, hx⟩ := hH.get b blk hb
    have hl := hH.live b blk hb
    exact ⟨by rw [hL]; exact hl, r, by rw [hρ]; exact hr, c, el, lo, hi, (hold r (hH.lt b r hl hr).2).trans hc, hf, hs, fun j x v h1 h2 => (hx j x v h1 h2).mono hex⟩

end
end Go.Cn
