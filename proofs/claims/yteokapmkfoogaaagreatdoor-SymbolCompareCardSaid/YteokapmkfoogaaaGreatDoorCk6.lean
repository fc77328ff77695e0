/- The canonical calculus: calls whose results are living memory. -/
import Derived.Test.YteokapmkfoogaaaGreatDoorCk5
set_option linter.unusedVariables false
set_option linter.unusedSimpArgs false
noncomputable section
namespace Go.Cn
variable {P : Program}

/-- the function, called in an empty memory, comes to x with the memory K0; t: its numbers are below -/
def LC (P : Program) (f : FuncId) (args : List CV) (x : CV) (K0 : CHeap) (t : Nat) : Prop := HC P f args [] 0 t fun y K => y = x ∧ K = K0

theorem lc_of {f : FuncId} {fn : Func} {c : Code} {args : List CV} {top : Nat} {x : CV} {K0 : CHeap} (hf : P.funcs[f]? = some fn) (hb : fn.body = some c) (hl : Nat.ble args.length fn.ntmps = true)
    (h : Goes P f fn.ntmps 0 top [.code c] ⟨argTm args 0 [], [], 0⟩ fun y K => y = x ∧ K = K0) : LC P f args x K0 top :=
  hc_of_goes hf hb (Nat.le_of_ble_eq_true hl) h

def pushH (n : Nat) : CHeap → CHeap
  | [] => []
  | (b, blk) :: h => (b + n, blk) :: pushH n h

/-- cells that refer to nothing -/
def Alone (Z : Prop) (blk : List CV) : Prop := (∀ n, shL n blk = blk) ∧ TidyL blk ∧ (Z → PlainL blk)
def AloneH (Z : Prop) : CHeap → Prop
  | [] => True
  | (_, blk) :: h => Alone Z blk ∧ AloneH Z h

theorem shL_append {n : Nat} : ∀ (xs ys : List CV), shL n (xs ++ ys) = shL n xs ++ shL n ys
  | [], ys => rfl
  | x :: xs, ys => by simp only [List.cons_append, shL, shL_append xs ys]
theorem plainL_append : ∀ {xs ys : List CV}, PlainL xs → PlainL ys → PlainL (xs ++ ys)
  | [], _, _, h => h
  | _ :: _, _, h, h' => ⟨h.1, plainL_append h.2 h'⟩

theorem alone_flat {α : Type} {enc : α → List CV} {Z : Prop} (h : ∀ a, Alone Z (enc a)) : ∀ (l : List α), Alone Z (l.flatMap enc)
  | [] => ⟨fun _ => rfl, trivial, fun _ => trivial⟩
  | a :: l => by
    obtain ⟨h1, h2, h3⟩ := h a
    obtain ⟨g1, g2, g3⟩ := alone_flat h l
    simp only [List.flatMap_cons]
    exact ⟨fun n => by rw [shL_append, h1, g1], tidyL_append h2 g2, fun z => plainL_append (h3 z) (g3 z)⟩

theorem push_of {Z : Prop} {n : Nat} : ∀ {K : CHeap}, AloneH Z K → shH n K = pushH n K
  | [], _ => rfl
  | (b, blk) :: K, h => by simp only [shH, pushH, h.1.1 n, push_of h.2]

theorem alone_get {Z : Prop} : ∀ {K : CHeap}, AloneH Z K → ∀ b blk, hget K b = some blk → TidyL blk ∧ (Z → PlainL blk)
  | [], _, b, blk, h => by simp [hget_nil] at h
  | (c, x) :: K, h, b, blk, hb => by
    rw [hget_cons] at hb
    split at hb
    · cases hb; exact h.1.2
    · exact alone_get h.2 b blk hb

theorem push_get {n : Nat} : ∀ {K : CHeap} {t : Nat}, K.all (fun p => Nat.blt p.1 t) = true → ∀ (H : CHeap) (b : Nat), (b < n → hget (pushH n K ++ H) b = hget H b) ∧ (∀ blk, hget (pushH n K ++ H) b = some blk → b < n + t ∨ hget H b = some blk)
  | [], t, _, H, b => ⟨fun _ => rfl, fun blk h => .inr h⟩
  | (c, x) :: K, t, hk, H, b => by
    simp only [List.all_cons, Bool.and_eq_true, Nat.blt_eq] at hk
    obtain ⟨h1, h2⟩ := push_get hk.2 H b
    simp only [pushH, List.cons_append, hget_cons]
    refine ⟨fun hb => ?_, fun blk hb => ?_⟩
    · rw [if_neg (by omega)]; exact h1 hb
    · split at hb
      · left; omega
      · exact h2 blk hb

theorem callIs_lc {f : FuncId} {fn : Func} {args args' : List CV} {x x' : CV} {H K0 K' : CHeap} {n n' t lo : Nat} (Z : Prop) (hf : P.funcs[f]? = some fn) (hb : fn.body.isSome = true) (hn : (fn.name == "runtime.NumGoroutine") = false) (h : LC P f args' x K0 t) (hr : ReadsL Z H args args')
    (ht : x.Tidy) (hp : Z → x.Plain) (hK : AloneH Z K0) (hk : K0.all (fun p => Nat.blt p.1 t) = true) (hs : x.sh n = x') (hS : pushH n K0 = K') (hm : n + t = n') : CallIs P f args H n lo x' (K' ++ H) n' := by
  subst hs; subst hS; subst hm
  obtain ⟨h1, h2⟩ := readsL_get hr
  refine ⟨⟨fn, hf, hb, hn⟩, ⟨Nat.le_add_right _ _, fun hl b hlt => (push_get hk H b).1 (by omega), fun hky b blk hg => ?_⟩, ?_⟩
  · rcases (push_get hk H b).2 blk hg with g | g
    · exact g
    · have := hky b blk g; omega
  · have := hc_frame (P := P) (t := t) Z h H n h1.symm h2 ht hp (alone_get hK)
    rw [push_of hK] at this
    exact this

/-- the memory that is handed out, under its new numbers -/
def MoveH (Z : Prop) (n : Nat) : CHeap → CHeap → Prop
  | [], [] => True
  | (b, blk) :: h, (b', blk') :: h' => (b' = b + n ∧ shL n blk = blk' ∧ TidyL blk ∧ (Z → PlainL blk)) ∧ MoveH Z n h h'
  | _, _ => False

theorem move_sh {Z : Prop} {n : Nat} : ∀ {K K' : CHeap}, MoveH Z n K K' → shH n K = K' ∧ ∀ b blk, hget K b = some blk → TidyL blk ∧ (Z → PlainL blk)
  | [], [], _ => ⟨rfl, fun b blk h => by simp [hget_nil] at h⟩
  | (b, blk) :: h, (b', blk') :: h', hm => by
    obtain ⟨⟨rfl, rfl, h3, h4⟩, h5⟩ := hm
    obtain ⟨g1, g2⟩ := move_sh h5
    refine ⟨by simp only [shH, g1], fun c x hc => ?_⟩
    rw [hget_cons] at hc
    split at hc
    · cases hc; exact ⟨h3, h4⟩
    · exact g2 c x hc
  | [], _ :: _, h => h.elim
  | _ :: _, [], h => h.elim

theorem sh_get {n : Nat} : ∀ {K : CHeap} {t : Nat}, K.all (fun p => Nat.blt p.1 t) = true → ∀ (H : CHeap) (b : Nat), (b < n → hget (shH n K ++ H) b = hget H b) ∧ (∀ blk, hget (shH n K ++ H) b = some blk → b < n + t ∨ hget H b = some blk)
  | [], t, _, H, b => ⟨fun _ => rfl, fun blk h => .inr h⟩
  | (c, x) :: K, t, hk, H, b => by
    simp only [List.all_cons, Bool.and_eq_true, Nat.blt_eq] at hk
    obtain ⟨h1, h2⟩ := sh_get hk.2 H b
    simp only [shH, List.cons_append, hget_cons]
    refine ⟨fun hb => ?_, fun blk hb => ?_⟩
    · rw [if_neg (by omega)]; exact h1 hb
    · split at hb
      · left; omega
      · exact h2 blk hb

theorem callIs_lm {f : FuncId} {fn : Func} {args args' : List CV} {x x' : CV} {H K0 K' : CHeap} {n n' t lo : Nat} (Z : Prop) (hf : P.funcs[f]? = some fn) (hb : fn.body.isSome = true) (hn : (fn.name == "runtime.NumGoroutine") = false) (h : LC P f args' x K0 t) (hr : ReadsL Z H args args')
    (ht : x.Tidy) (hp : Z → x.Plain) (hM : MoveH Z n K0 K') (hk : K0.all (fun p => Nat.blt p.1 t) = true) (hs : x.sh n = x') (hm : n + t = n') : CallIs P f args H n lo x' (K' ++ H) n' := by
  obtain ⟨rfl, hK⟩ := move_sh hM
  subst hs; subst hm
  obtain ⟨h1, h2⟩ := readsL_get hr
  refine ⟨⟨fn, hf, hb, hn⟩, ⟨Nat.le_add_right _ _, fun hl b hlt => (sh_get hk H b).1 (by omega), fun hky b blk hg => ?_⟩, hc_frame (P := P) (t := t) Z h H n h1.symm h2 ht hp hK⟩
  rcases (sh_get hk H b).2 blk hg with g | g
  · exact g
  · have := hky b blk g; omega

theorem move_flat {α : Type} {enc : α → List CV} {Z : Prop} {n : Nat} (h : ∀ a, Alone Z (enc a)) (l : List α) : shL n (l.flatMap enc) = l.flatMap enc ∧ TidyL (l.flatMap enc) ∧ (Z → PlainL (l.flatMap enc)) :=
  ⟨(alone_flat h l).1 n, (alone_flat h l).2⟩

/-! ### a part of a living slice -/
theorem elt_take {α : Type} {l : List α} {m : Nat} {i : Int} {a : α} (h : elt (l.take m) i = some a) : elt l i = some a := by
  unfold elt at h ⊢
  split at h
  · next h0 =>
    rw [if_pos h0]
    rw [List.getElem?_take] at h
    split at h
    · exact h
    · simp at h
  · simp at h

theorem idx_take {α : Type} {sz : Nat} {t e : TypeId} {l : List α} {m : Nat} {i : Int} {a : α} {k : IntKind} {b : Nat} {cap : Option Nat} (hT : P.underlying t = some (.slice e)) (hs : tsize P e = some sz) (h : elt (l.take m) i = some a) :
    cindexAddr P t (.slice sz b 0 m cap) (.int k i) = some (.ptr b (i.toNat * sz)) := by
  obtain ⟨h0, h1, _⟩ := elt_get h
  have h2 : i.toNat < m := by rw [List.length_take] at h1; omega
  simp only [cindexAddr, asIdx, hT, hs]
  rw [if_neg (by omega), if_pos (by rw [Nat.blt_eq]; exact h2)]
  simp

theorem slice_to {sz : Nat} {t e : TypeId} {b len : Nat} {H : CHeap} {hi : Int} {k : IntKind} (hT : P.underlying t = some (.slice e)) (hs : tsize P e = some sz) (h : 1 ≤ hi ∧ hi ≤ (len : Int)) :
    cslice P t (.slice sz b 0 len none) none (some (.int k hi)) none H = some (.slice sz b 0 hi.toNat none) := by
  simp only [cslice, hT, hs]
  rw [if_pos (Nat.beq_refl _)]
  have h1 : cbound (.int k hi) len = some hi.toNat := by
    simp only [cbound, asIdx]
    rw [if_neg (by omega), if_pos (by rw [Nat.ble_eq]; omega)]
  have h2 : cbounds len len none none (some (.int k hi)) none = some (0, hi.toNat, none) := by
    unfold cbounds
    dsimp only
    rw [h1]
  simp only [Option.getD_none, h2]
  have h3 : Nat.beq (hi.toNat - 0) 0 = false := by
    rw [← Bool.not_eq_true]; intro hh; have := Nat.eq_of_beq_eq_true hh; omega
  rw [h3]
  simp

/-! ### results that lie in new memory alone -/
/-- given up for good, y in K reads as x, in the new blocks alone -/
def FrzS (K : CHeap) (y x : CV) : Prop := ∀ (E : Env) (v : Value) (J : Nat → Prop), HR E K → VR E y v → (∀ b r, E.L b → E.ρ b = some r → J r) → VR { ρ := fun _ => none, L := fun _ => False, I := J, w := E.w } x v

def Scal (x : CV) : Prop := ∀ (E E' : Env) (v : Value), VR E x v → VR E' x v
theorem scal_bool {b : Bool} : Scal (.bool b) := fun E E' v h => by cases h; exact .bool b
theorem scal_int {k : IntKind} {n : Int} : Scal (.int k n) := fun E E' v h => by cases h; exact .int k n
theorem scal_str {s : List UInt8} : Scal (.str s) := fun E E' v h => by cases h; exact .str s
def ScalL : List CV → Prop
  | [] => True
  | x :: xs => Scal x ∧ ScalL xs
theorem scalL_mem : ∀ {xs : List CV}, ScalL xs → ∀ x ∈ xs, Scal x
  | [], _, x, h => by simp at h
  | y :: xs, h, x, hx => by
    rcases List.mem_cons.1 hx with rfl | hx
    · exact h.1
    · exact scalL_mem h.2 x hx

theorem frzS_scal {K : CHeap} {x : CV} (h : Scal x) : FrzS K x x := fun E v J hH hv hJ => h E _ v hv

theorem frzS_tup {K : CHeap} {ys xs : List CV} (hl : ys.length = xs.length) (h : ∀ (i : Nat) y x, ys[i]? = some y → xs[i]? = some x → FrzS K y x) : FrzS K (.tup ys) (.tup xs) := by
  intro E v J hH hv hJ
  cases hv with
  | tup _ vs h1 h2 =>
    refine .tup xs vs (by rw [h1, hl]) fun i x v hx hv => ?_
    have hlt : i < ys.length := by
      rcases Nat.lt_or_ge i xs.length with h' | h'
      · omega
      · rw [List.getElem?_eq_none h'] at hx; simp at hx
    exact h i ys[i] x (List.getElem?_eq_getElem hlt) hx E v J hH (h2 i _ v (List.getElem?_eq_getElem hlt) hv) hJ

theorem frzS_agg {K : CHeap} {ys xs : List CV} (hl : ys.length = xs.length) (h : ∀ (i : Nat) y x, ys[i]? = some y → xs[i]? = some x → FrzS K y x) : FrzS K (.agg ys) (.agg xs) := by
  intro E v J hH hv hJ
  cases hv with
  | agg _ vs h1 h2 =>
    refine .agg xs vs (by rw [h1, hl]) fun i x v hx hv => ?_
    have hlt : i < ys.length := by
      rcases Nat.lt_or_ge i xs.length with h' | h'
      · omega
      · rw [List.getElem?_eq_none h'] at hx; simp at hx
    exact h i ys[i] x (List.getElem?_eq_getElem hlt) hx E v J hH (h2 i _ v (List.getElem?_eq_getElem hlt) hv) hJ

def FrzSL (K : CHeap) : List CV → List CV → Prop
  | [], [] => True
  | y :: ys, x :: xs => FrzS K y x ∧ FrzSL K ys xs
  | _, _ => False
theorem frzSL_get {K : CHeap} : ∀ {ys xs : List CV}, FrzSL K ys xs → ys.length = xs.length ∧ ∀ (i : Nat) y x, ys[i]? = some y → xs[i]? = some x → FrzS K y x
  | [], [], _ => ⟨rfl, fun i y x h => by simp at h⟩
  | y :: ys, x :: xs, h => by
    obtain ⟨h1, h2⟩ := frzSL_get h.2
    refine ⟨by simp [h1], fun i y' x' hy hx => ?_⟩
    cases i with
    | zero => simp at hy hx; subst hy; subst hx; exact h.1
    | succ i => exact h2 i y' x' (by simpa using hy) (by simpa using hx)
  | [], _ :: _, h => h.elim
  | _ :: _, [], h => h.elim
theorem frzS_aggL {K : CHeap} {ys xs : List CV} (h : FrzSL K ys xs) : FrzS K (.agg ys) (.agg xs) := frzS_agg (frzSL_get h).1 (frzSL_get h).2
theorem frzS_tupL {K : CHeap} {ys xs : List CV} (h : FrzSL K ys xs) : FrzS K (.tup ys) (.tup xs) := frzS_tup (frzSL_get h).1 (frzSL_get h).2

theorem frzS_slice {K : CHeap} {sz b off len : Nat} {cap : Option Nat} {blk : List CV} {xs : List (List CV)} (hg : hget K b = some blk) (hl : xs.length = len) (hs : ∀ c ∈ xs, c.length = sz)
    (hx : ∀ (i j : Nat) c x, xs[i]? = some c → c[j]? = some x → ∃ y, blk[off + i * sz + j]? = some y ∧ FrzS K y x) : FrzS K (.slice sz b off len cap) (.ro sz xs none) := by
  intro E v J hH hv hJ
  cases hv with
  | slice _ _ _ _ _ ad cap' h1 h2 h3 h4 =>
    obtain ⟨r, hr, c', el, lo, hi, hc, hf, hs', hxx⟩ := hH.get b blk hg
    obtain ⟨rfl, hB⟩ := h2 r hr
    subst hl
    refine .ro sz xs none (some ⟨r, off, none⟩) cap' r off (fun i j => c'.getD (off + i * sz + j) undef) h3 (fun c hc => by simp at hc) (fun _ => ⟨rfl, hJ b r (hH.live b blk hg) hr⟩) hs (fun i j c x hi hj => ?_) (fun i j c x hi hj => ?_)
    · obtain ⟨y, hy, _⟩ := hx i j c x hi hj
      have hlt : off + i * sz + j < blk.length := by
        rcases Nat.lt_or_ge (off + i * sz + j) blk.length with h' | h'
        · exact h'
        · rw [List.getElem?_eq_none h'] at hy; simp at hy
      have : off + i * sz + j < c'.size := by omega
      show World.cell? E.w _ = _
      simp [World.cell?, hc, this]
    · obtain ⟨y, hy, hfz⟩ := hx i j c x hi hj
      have hlt : off + i * sz + j < blk.length := by
        rcases Nat.lt_or_ge (off + i * sz + j) blk.length with h' | h'
        · exact h'
        · rw [List.getElem?_eq_none h'] at hy; simp at hy
      have : off + i * sz + j < c'.size := by omega
      refine hfz E _ J hH (hxx _ y _ hy ?_) hJ
      simp [this]

theorem frzS_flat {α : Type} {enc : α → List CV} {sz : Nat} {K : CHeap} {b len : Nat} {l : List α} {cap : Option Nat} (hlen : len = l.length) (henc : ∀ a, (enc a).length = sz) (hc : ∀ a, ScalL (enc a)) (hg : hget K b = some (l.flatMap enc)) : FrzS K (.slice sz b 0 len cap) (.ro sz (l.map enc) none) := by
  subst hlen
  refine frzS_slice hg (by simp) (fun c hm => ?_) (fun i j c x hi hj => ?_)
  · obtain ⟨a, _, rfl⟩ := List.mem_map.1 hm; exact henc a
  · rw [List.getElem?_map] at hi
    cases hl : l[i]? with
    | none => rw [hl] at hi; simp at hi
    | some a =>
      rw [hl] at hi; simp at hi; subst hi
      have hlt : j < sz := by
        rcases Nat.lt_or_ge j sz with h' | h'
        · exact h'
        · rw [List.getElem?_eq_none (by rw [henc]; exact h')] at hj; simp at hj
      refine ⟨x, ?_, frzS_scal (scalL_mem (hc a) x (List.mem_of_getElem? hj))⟩
      rw [Nat.zero_add, flat_get henc l i j a hl hlt, hj]

theorem frzS_nil {α : Type} {enc : α → List CV} {K : CHeap} {sz sz' : Nat} {cap : Option Nat} : FrzS K (.ro sz [] cap) (.ro sz' (([] : List α).map enc) none) := by
  intro E v J hH hv hJ
  cases hv with
  | ro _ _ _ a cap' r o vs h1 h2 h3 h4 h5 h6 =>
    exact .ro sz' [] none a cap' r o vs (Nat.zero_le _) (fun c hc => by simp at hc) (fun h => absurd rfl h) (fun c hc => by simp at hc) (fun i j c x hi => by simp at hi) (fun i j c x hi => by simp at hi)

/-- the function, called in an empty memory, comes to what reads as x, in new blocks alone -/
def PS (P : Program) (f : FuncId) (args : List CV) (x : CV) : Prop := ∃ t, HC P f args [] 0 t fun y K => FrzS K y x

theorem ps_of {f : FuncId} {fn : Func} {c : Code} {args : List CV} {top : Nat} {x : CV} (hf : P.funcs[f]? = some fn) (hb : fn.body = some c) (hl : Nat.ble args.length fn.ntmps = true)
    (h : Goes P f fn.ntmps 0 top [.code c] ⟨argTm args 0 [], [], 0⟩ fun y K => FrzS K y x) : PS P f args x :=
  ⟨top, hc_of_goes hf hb (Nat.le_of_ble_eq_true hl) h⟩

theorem callIs_ps {f : FuncId} {fn : Func} {args args' : List CV} {x : CV} {H : CHeap} {n lo : Nat} (Z : Prop) (hf : P.funcs[f]? = some fn) (hb : fn.body.isSome = true) (hn : (fn.name == "runtime.NumGoroutine") = false) (h : PS P f args' x) (hr : ReadsL Z H args args') :
    CallIs P f args H n lo x H n := by
  refine ⟨⟨fn, hf, hb, hn⟩, .refl, ?_⟩
  obtain ⟨hl, hr⟩ := readsL_get hr
  obtain ⟨t, h⟩ := h
  intro E vs hfr hky hH hv
  let E0 : Env := { ρ := fun _ => none, L := fun _ => False, I := fun r => E.I r ∨ (Z ∧ ∃ b, E.L b ∧ E.ρ b = some r), w := E.w }
  have hE0 : HR E0 [] := ⟨fun b blk hb => by simp [hget_nil] at hb, fun b blk hb => by simp [hget_nil] at hb, fun b b' r l => l.elim, fun b r l => l.elim, fun r hr => by
    rcases hr with hr | ⟨_, b, l, hb⟩
    · exact hH.Ilt r hr
    · exact (hH.lt b r l hb).2⟩
  have hv0 : VRs E0 args' vs := by
    refine ⟨by rw [hv.1, hl], fun i y' v hy' hv' => ?_⟩
    have hlt : i < args.length := by
      rcases Nat.lt_or_ge i args'.length with h' | h'
      · omega
      · rw [List.getElem?_eq_none h'] at hy'; simp at hy'
    exact hr i args[i] y' (List.getElem?_eq_getElem hlt) hy' E v hH (hv.2 i _ v (List.getElem?_eq_getElem hlt) hv')
  refine (h E0 vs (fun k _ _ hk => hk rfl) (fun b blk hb => by simp [hget_nil] at hb) hE0 hv0).mono ?_
  rintro e w' ⟨v, y, K, E1, rfl, rfl, hex, hh, hub, hvr, hQ⟩
  have hout : ∀ r, r < E.w.heap.size → E1.w.heap[r]? = E.w.heap[r]? ∧ ∀ b, E1.L b → E1.ρ b ≠ some r := fun r hr => hex.out r hr (fun b l => l.elim)
  let E' : Env := { ρ := E.ρ, L := E.L, I := fun r => (E1.I r ∧ ¬ (Z ∧ ∃ b, E.L b ∧ E.ρ b = some r)) ∨ ∃ b, E1.L b ∧ E1.ρ b = some r, w := E1.w }
  have hnew : ∀ r, E'.I r → E.I r ∨ E.w.heap.size ≤ r := by
    rintro r (⟨h1, h2⟩ | ⟨b, l, hb⟩)
    · rcases hex.newI r h1 with g | g | ⟨b, l, _⟩
      · rcases g with g | g
        · exact .inl g
        · exact absurd g h2
      · exact .inr g
      · exact l.elim
    · rcases Nat.lt_or_ge r E.w.heap.size with h2 | h2
      · exact absurd hb ((hout r h2).2 b l)
      · exact .inr h2
  have hex' : Ex E E' := by
    refine ⟨fun _ _ h => h, fun _ _ h => h, fun r hI => ⟨.inl ⟨(hex.I r (.inl hI)).1, ?_⟩, (hex.I r (.inl hI)).2⟩, hex.sz, hex.grow, fun r hr hn => ⟨(hout r hr).1, hn⟩, fun r hr => (hnew r hr).imp id .inl, hex.io⟩
    rintro ⟨_, b, l, hb⟩; exact (hH.lt b r l hb).1 hI
  have hbase : Base E' := by
    refine ⟨hH.inj, fun b r l hr => ?_, ?_⟩
    · obtain ⟨h1, h2⟩ := hH.lt b r l hr
      refine ⟨fun hI => ?_, Nat.lt_of_lt_of_le h2 hex.grow⟩
      rcases hnew r hI with g | g
      · exact h1 g
      · omega
    · rintro r (⟨h1, _⟩ | ⟨b, hl, hb⟩)
      · exact hh.Ilt r h1
      · exact (hh.lt b r hl hb).2
  have hx := hQ E1 v E'.I hh hvr (fun b r l hb => .inr ⟨b, l, hb⟩)
  refine ⟨v, x, H, E', rfl, rfl, hex', hbase.hr (fun b blk hb => ?_), .of_eq rfl, hx.le ⟨fun b r h => by simp at h, fun r h => ⟨h, rfl⟩, fun _ => Nat.le_refl _⟩, rfl, rfl⟩
  obtain ⟨r, hr, c, el, lo, hi, hc, hf, hs, hx⟩ := hH.get b blk hb
  have hl := hH.live b blk hb
  exact ⟨hl, r, hr, c, el, lo, hi, (hout r (hH.lt b r hl hr).2).1.trans hc, hf, hs, fun j x v h1 h2 => (hx j x v h1 h2).mono hex'⟩

/-! ### the code's control, stopped behind a region -/
/-- as 'dsc', but only past n regions -/
def dsr : Nat → List Bool → Nat → List Item → List Item
  | 0, _, _, todo => todo
  | f + 1, bs, n, todo => match n with
    | 0 => todo
    | n + 1 => match todo with
      | [] => []
      | .code c :: k => (match c with
        | .loop b => (match bs with | [] => todo | _ :: bs => dsr f bs (n + 1) (.code b :: .inLoop b :: k))
        | .cond _ t e => (match bs with | [] => todo | b :: bs => dsr f bs (n + 1) ((match b with | true => .code t | false => .code e) :: k))
        | .ret => todo
        | .region _ _ _ => dsr f bs n k
        | .seq a b => dsr f bs (n + 1) (.code a :: .code b :: k)
        | .block id b => dsr f bs (n + 1) (.code b :: .inBlock id :: k)
        | .scope b => dsr f bs (n + 1) (.code b :: .inScope b :: k)
        | .exit id => (match exitTo id k with | some k' => dsr f bs (n + 1) k' | none => [])
        | .goto l => (match gotoIn l k with | some k' => dsr f bs (n + 1) k' | none => [])
        | _ => dsr f bs (n + 1) k)
      | .inLoop _ :: _ => todo
      | _ :: k => dsr f bs (n + 1) k

end Go.Cn
