/- The canonical calculus: callees that write. -/
import Derived.Test.YtgbijhccgmmkgabGreatDoorCb3
set_option linter.unusedVariables false
set_option linter.unusedSimpArgs false
noncomputable section
namespace Go.Cn
variable {P : Program}

/-- the function, called with the block blk at number 0, comes to x and leaves blk' there -/
def WC (P : Program) (f : FuncId) (args : List CV) (blk : List CV) (x : CV) (blk' : List CV) : Prop := ∃ t, HC P f args [(0, blk)] 1 t fun y K => y = x ∧ hget K 0 = some blk'

theorem wc_of {f : FuncId} {fn : Func} {c : Code} {args blk blk' : List CV} {top : Nat} {x : CV} (hf : P.funcs[f]? = some fn) (hb : fn.body = some c) (hl : Nat.ble args.length fn.ntmps = true)
    (h : Goes P f fn.ntmps 1 top [.code c] ⟨argTm args 0 [], [(0, blk)], 1⟩ fun y K => y = x ∧ hget K 0 = some blk') : WC P f args blk x blk' :=
  ⟨top, uo4 hf hb (Nat.le_of_ble_eq_true hl) h⟩

/-- what the callee sees: one block, as number 0 -/
def Env.lend (E : Env) (b : Nat) : Env := { ρ := fun k => if k = 0 then E.ρ b else none, L := fun k => k = 0, I := E.I, w := E.w }
def Lends (b : Nat) (y x : CV) : Prop := ∀ (E : Env) (v : Value), VR E y v → VR (E.lend b) x v
def LendsL (b : Nat) : List CV → List CV → Prop
  | [], [] => True
  | y :: ys, x :: xs => Lends b y x ∧ LendsL b ys xs
  | _, _ => False
theorem lendsL_get {b : Nat} : ∀ {ys xs : List CV}, LendsL b ys xs → ys.length = xs.length ∧ ∀ (i : Nat) y x, ys[i]? = some y → xs[i]? = some x → Lends b y x
  | [], [], _ => ⟨rfl, fun i y x h => by simp at h⟩
  | y :: ys, x :: xs, h => by
    obtain ⟨h1, h2⟩ := lendsL_get h.2
    refine ⟨by simp [h1], fun i y' x' hy hx => ?_⟩
    cases i with
    | zero => simp at hy hx; subst hy; subst hx; exact h.1
    | succ i => exact h2 i y' x' (by simpa using hy) (by simpa using hx)
  | [], _ :: _, h => h.elim
  | _ :: _, [], h => h.elim
theorem ud8 {b : Nat} {x : CV} (h : ub0 x) : Lends b x x := fun E v hv => h E _ _ v hv
theorem lends_slice {b sz len len' : Nat} {cap : Option Nat} (hl : len = len') : Lends b (.slice sz b 0 len cap) (.slice sz 0 0 len' none) := by
  subst hl
  intro E v hv
  cases hv with
  | slice _ _ _ _ _ ad cap' h1 h2 h3 h4 =>
    exact .slice sz 0 0 len none ad cap' (by simpa [Env.U, Env.lend] using h1) (fun r hr => h2 r (by simpa [Env.lend] using hr)) h3 (fun c hc => by simp at hc)
theorem lends_agg {b : Nat} {ys xs : List CV} (h : LendsL b ys xs) : Lends b (.agg ys) (.agg xs) := by
  obtain ⟨hl, h⟩ := lendsL_get h
  intro E v hv
  cases hv with
  | agg _ vs h1 h2 =>
    refine .agg xs vs (by rw [h1, hl]) fun i x v hx hv => ?_
    have hlt : i < ys.length := by
      rcases Nat.lt_or_ge i xs.length with h' | h'
      · omega
      · rw [List.getElem?_eq_none h'] at hx; simp at hx
    exact h i ys[i] x (List.getElem?_eq_getElem hlt) hx E v (h2 i _ v (List.getElem?_eq_getElem hlt) hv)

theorem ui7 {α : Type} {enc : α → List CV} (h : ∀ a, ScalL (enc a)) : ∀ (l : List α), ScalL (l.flatMap enc)
  | [] => trivial
  | a :: l => by
    rw [List.flatMap_cons]
    have g : ∀ {xs ys : List CV}, ScalL xs → ScalL ys → ScalL (xs ++ ys) := by
      intro xs
      induction xs with
      | nil => intro ys _ h; exact h
      | cons x xs ih => intro ys h h'; exact ⟨h.1, ih h.2 h'⟩
    exact g (h a) (ui7 h l)
theorem br_scal {E E' : Env} {blk : List CV} {r : Nat} (h : BR E blk r) (hw : E'.w = E.w) (hs : ScalL blk) : BR E' blk r := by
  obtain ⟨c, el, lo, hi, h1, h2, h3, h4⟩ := h
  exact ⟨c, el, lo, hi, by rw [hw]; exact h1, h2, h3, fun j x v hx hv => scalL_mem hs x (List.mem_of_getElem? hx) E E' v (h4 j x v hx hv)⟩

/-- a list that takes the place of one of the same length -/
def kp {α : Type} (l l' : List α) : List α := if l'.length = l.length then l' else l
theorem kp_len {α : Type} {l l' : List α} : (kp l l').length = l.length := by
  unfold kp; split <;> simp_all
theorem kp_eq {α : Type} {l l' : List α} (h : l'.length = l.length) : kp l l' = l' := by unfold kp; rw [if_pos h]

/-- a call that writes into the block b -/
theorem callIs_wc {f : FuncId} {fn : Func} {args args' : List CV} {x : CV} {H H' : ua8} {n lo : Nat} (b : Nat) {blk blk' : List CV} (hf : P.funcs[f]? = some fn) (hb : fn.body.isSome = true) (hn : (fn.name == "runtime.NumGoroutine") = false)
    (h : WC P f args' blk x blk') (hr : LendsL b args args') (hg : hget H b = some blk) (hs : Scal x) (h1 : ScalL blk) (h2 : ScalL blk') (hlo : Nat.ble lo b = true) (hH' : hset H b blk' = H') : ub8 P f args H n lo x H' n := by
  subst hH'
  refine ⟨⟨fn, hf, hb, hn⟩, .set (Nat.le_of_ble_eq_true hlo), ?_⟩
  obtain ⟨hl, hr⟩ := lendsL_get hr
  obtain ⟨t, h⟩ := h
  intro E vs hfr hky hH hv
  have hlive := hH.live b blk hg
  obtain ⟨r0, hr0, hbr⟩ := hH.get b blk hg
  have hE0 : HR (E.lend b) [(0, blk)] := by
    refine ⟨fun c bl hc => ?_, fun c bl hc => ?_, fun c c' r l l' _ _ => ?_, fun c r l hc => ?_, fun r hI => hH.Ilt r hI⟩
    · rw [ub2] at hc
      split at hc
      · next e => cases hc; subst e; exact ⟨r0, by simpa [Env.lend] using hr0, br_scal hbr rfl h1⟩
      · simp [uc2] at hc
    · rw [ub2] at hc
      split at hc
      · next e => exact e.symm
      · simp [uc2] at hc
    · have l : c = 0 := l
      have l' : c' = 0 := l'
      omega
    · have l : c = 0 := l
      subst l
      exact hH.lt b r hlive (by simpa [Env.lend] using hc)
  have hv0 : VRs (E.lend b) args' vs := by
    refine ⟨by rw [hv.1, hl], fun i y' v hy' hv' => ?_⟩
    have hlt : i < args.length := by
      rcases Nat.lt_or_ge i args'.length with h' | h'
      · omega
      · rw [List.getElem?_eq_none h'] at hy'; simp at hy'
    exact hr i args[i] y' (List.getElem?_eq_getElem hlt) hy' E v (hv.2 i _ v (List.getElem?_eq_getElem hlt) hv')
  refine (h (E.lend b) vs (fun k h1 _ hk => hk (by show (if k = 0 then E.ρ b else none) = none; rw [if_neg (by omega)])) (fun c bl hc => by
    rw [ub2] at hc
    split at hc
    · omega
    · simp [uc2] at hc) hE0 hv0).mono ?_
  rintro e w' ⟨v, y, K, E1, rfl, rfl, hex, hh, hub, hvr, rfl, hK⟩
  have hρ : E1.ρ 0 = some r0 := hex.fwd 0 r0 (by simpa [Env.lend] using hr0)
  have hnew : ∀ r, E1.I r → E.I r ∨ E.w.heap.size ≤ r ∨ E.ρ b = some r := fun r hI => by
    rcases hex.newI r hI with g | g | ⟨c, l, g⟩
    · exact .inl g
    · exact .inr (.inl g)
    · have l : c = 0 := l
      subst l
      exact .inr (.inr (by simpa [Env.lend] using g))
  have hout : ∀ r, r < E.w.heap.size → E.ρ b ≠ some r → E1.w.heap[r]? = E.w.heap[r]? := fun r hr hne => (hex.out r hr (fun c (l : c = 0) => by subst l; simpa [Env.lend] using hne)).1
  let E' : Env := { ρ := E.ρ, L := E.L, I := E1.I, w := E1.w }
  have hex' : Ex E E' := by
    refine ⟨fun _ _ h => h, fun _ _ h => h, fun r hI => hex.I r hI, hex.sz, hex.grow, fun r hr hn => ⟨hout r hr (hn b hlive), hn⟩, fun r hI => ?_, hex.io⟩
    rcases hnew r hI with g | g | g
    · exact .inl g
    · exact .inr (.inl g)
    · exact .inr (.inr ⟨b, hlive, g⟩)
  have hbase : Base E' := by
    refine ⟨hH.inj, fun c r l hr => ?_, hh.Ilt⟩
    obtain ⟨k1, k2⟩ := hH.lt c r l hr
    refine ⟨fun hI => ?_, Nat.lt_of_lt_of_le k2 hex.grow⟩
    rcases hnew r hI with g | g | g
    · exact k1 g
    · omega
    · rw [hr0] at g
      cases g
      exact (hh.lt 0 r0 (hh.live 0 blk' hK) hρ).1 hI
  refine ⟨v, y, hset H b blk', E', rfl, rfl, hex', hbase.hr (fun c bl hc => ?_), .of_eq rfl, hs _ _ _ hvr, rfl, rfl⟩
  rw [uf2] at hc
  split at hc
  · next e =>
    subst e
    rw [hg] at hc
    simp only [Option.map_some, Option.some.injEq] at hc
    subst hc
    obtain ⟨r1, k1, k2⟩ := hh.get 0 blk' hK
    rw [hρ] at k1
    cases k1
    exact ⟨hlive, r0, hr0, br_scal k2 rfl h2⟩
  · next e =>
    obtain ⟨r, hr, c', el, lo', hi, hc', hf', hs', hx⟩ := hH.get c bl hc
    have hl' := hH.live c bl hc
    exact ⟨hl', r, hr, c', el, lo', hi, (hout r (hH.lt c r hl' hr).2 (fun g => e (hH.inj b c r hlive hl' g hr))).trans hc', hf', hs', fun j x v h1 h2 => (hx j x v h1 h2).mono hex'⟩

end Go.Cn
end
