/- The canonical calculus, part 15: a region whose order Go leaves open. -/
import Derived.Test.YteokapmkfoogaaaGreatDoorCn14
import Derived.Orders
set_option linter.unusedVariables false
set_option linter.unusedSimpArgs false
noncomputable section
namespace Go.Cn

/-! ### the check and the canonical run, in the written order -/
def tmpsOf : List Operand → List Nat
  | [] => []
  | .tmp t :: r => t :: tmpsOf r
  | _ :: r => tmpsOf r

def looks (ops : Array Oper) (o : Oper) : List Nat :=
  tmpsOf o.op.operands.toList ++ (match o.guard with | some (g, _) => (match ops[g]? with | some p => p.dst.toList | none => []) | none => [])

def dstIs (o : Oper) (t : Nat) : Bool := match o.dst with | some d => Nat.beq d t | none => false

def maskOf (t : Nat) : List (Nat × Nat) → Nat
  | [] => 0
  | (u, m) :: r => if Nat.beq u t then m else maskOf t r

def markAll (i : Nat) : List Nat → List (Nat × Nat) → List (Nat × Nat)
  | [], l => l
  | t :: r, l => markAll i r ((t, maskOf t l ||| 2 ^ i) :: l)

def subMask (m b : Nat) : Bool := Nat.beq (m &&& b) m

/-- who writes a temporary that another names stands ahead of it or behind it -/
def tmpGo (arr : Array Oper) : List Oper → List Nat → Nat → List (Nat × Nat) → List (Nat × Nat) → Bool
  | [], _, _, _, _ => true
  | _ :: _, [], _, _, _ => false
  | o :: r, m :: ms, i, T, W => match o.dst.toList ++ looks arr o with
    | ts => (ts.all (fun t => subMask (maskOf t W) m) && o.dst.toList.all (fun t => subMask (maskOf t T) m)) && tmpGo arr r ms (i + 1) (markAll i ts T) (markAll i o.dst.toList W)

def tmpOk (ops : List Oper) (arr : Array Oper) (b : List Nat) : Bool := tmpGo arr ops b 0 [] []

theorem maskOf_mark {i t j : Nat} : ∀ {ts : List Nat} {l : List (Nat × Nat)}, (maskOf t l).testBit j = true → (maskOf t (markAll i ts l)).testBit j = true
  | [], l, h => h
  | u :: ts, l, h => by
    refine maskOf_mark (ts := ts) ?_
    simp only [maskOf]
    by_cases e : u = t
    · subst e; simp [h]
    · simp [e, h]

theorem maskOf_hit {i t : Nat} : ∀ {ts : List Nat} {l : List (Nat × Nat)}, t ∈ ts → (maskOf t (markAll i ts l)).testBit i = true
  | u :: ts, l, h => by
    by_cases e : u = t
    · subst e
      refine maskOf_mark (ts := ts) ?_
      simp [maskOf]
    · exact maskOf_hit (ts := ts) ((List.mem_cons.1 h).resolve_left fun e' => e e'.symm)

theorem subMask_spec {m b j : Nat} (h : subMask m b = true) (hj : m.testBit j = true) : b.testBit j = true := by
  have h1 : m &&& b = m := Nat.eq_of_beq_eq_true h
  rw [← h1, Nat.testBit_and] at hj
  simp only [Bool.and_eq_true] at hj
  exact hj.2

theorem tmpGo_spec {arr : Array Oper} : ∀ (ops : List Oper) (ms : List Nat) (i0 : Nat) (T W : List (Nat × Nat)), tmpGo arr ops ms i0 T W = true →
    (∀ k o t, ops[k]? = some o → t ∈ o.dst.toList ++ looks arr o → ∀ j, (maskOf t W).testBit j = true → (ms.getD k 0).testBit j = true) ∧
    (∀ k o t, ops[k]? = some o → o.dst = some t → ∀ j, (maskOf t T).testBit j = true → (ms.getD k 0).testBit j = true) ∧
    (∀ k k' o o' t, k < k' → ops[k]? = some o → ops[k']? = some o' → o.dst = some t → t ∈ o'.dst.toList ++ looks arr o' → (ms.getD k' 0).testBit (i0 + k) = true) ∧
    (∀ k k' o o' t, k < k' → ops[k]? = some o → ops[k']? = some o' → o'.dst = some t → t ∈ o.dst.toList ++ looks arr o → (ms.getD k' 0).testBit (i0 + k) = true)
  | [], _, i0, T, W, _ => by simp
  | _ :: _, [], i0, T, W, h => by simp [tmpGo] at h
  | o0 :: r, m :: ms, i0, T, W, h => by
    simp only [tmpGo, Bool.and_eq_true, List.all_eq_true] at h
    obtain ⟨⟨h1, h2⟩, h3⟩ := h
    obtain ⟨g1, g2, g3, g4⟩ := tmpGo_spec r ms (i0 + 1) _ _ h3
    refine ⟨fun k o t hk ht j hj => ?_, fun k o t hk ht j hj => ?_, fun k k' o o' t hkk hk hk' hd ht => ?_, fun k k' o o' t hkk hk hk' hd ht => ?_⟩
    · cases k with
      | zero => simp at hk; subst hk; exact subMask_spec (h1 t ht) hj
      | succ k => simpa using g1 k o t (by simpa using hk) ht j (maskOf_mark hj)
    · cases k with
      | zero => simp at hk; subst hk; exact subMask_spec (h2 t (by simp [ht])) hj
      | succ k => simpa using g2 k o t (by simpa using hk) ht j (maskOf_mark hj)
    · cases k' with
      | zero => omega
      | succ k' =>
        cases k with
        | zero =>
          simp at hk; subst hk
          simpa using g1 k' o' t (by simpa using hk') ht i0 (maskOf_hit (by simp [hd]))
        | succ k =>
          have := g3 k k' o o' t (by omega) (by simpa using hk) (by simpa using hk') hd ht
          rw [show i0 + 1 + k = i0 + (k + 1) by omega] at this
          simpa using this
    · cases k' with
      | zero => omega
      | succ k' =>
        cases k with
        | zero =>
          simp at hk; subst hk
          simpa using g2 k' o' t (by simpa using hk') hd i0 (maskOf_hit ht)
        | succ k =>
          have := g4 k k' o o' t (by omega) (by simpa using hk) (by simpa using hk') hd ht
          rw [show i0 + 1 + k = i0 + (k + 1) by omega] at this
          simpa using this

def edgesGo : List Oper → Nat → Bool
  | [], _ => true
  | o :: r, i => o.after.toList.all (fun e => !Region.binds .any e || Nat.blt e.on i) && edgesGo r (i + 1)

/-- what an operation hangs on stands ahead of it -/
def edgesOk (ops : Array Oper) : Bool := edgesGo ops.toList 0

theorem edgesGo_spec : ∀ (ops : List Oper) (i0 : Nat), edgesGo ops i0 = true → ∀ k o, ops[k]? = some o → ∀ e ∈ o.after.toList, Region.binds .any e = true → e.on < i0 + k
  | [], _, _, k, o, hk => by simp at hk
  | o0 :: r, i0, h, k, o, hk => by
    intro e he hb
    simp only [edgesGo, Bool.and_eq_true, List.all_eq_true] at h
    cases k with
    | zero =>
      simp at hk; subst hk
      have := h.1 e he
      simpa [hb] using this
    | succ k =>
      have := edgesGo_spec r (i0 + 1) h.2 k o (by simpa using hk) e he hb
      omega

def selT (tm : CTm) : List Nat → CTm
  | [] => []
  | t :: r => match tget tm t with | some x => (t, x) :: selT tm r | none => selT tm r

/-- a bit of a mask -/
def tb (m j : Nat) : Bool := Nat.beq (Nat.land (Nat.shiftRight m j) 1) 1

theorem tb_eq (m j : Nat) : tb m j = m.testBit j := by
  have h : Nat.land (Nat.shiftRight m j) 1 = (m >>> j) &&& 1 := rfl
  unfold tb
  rw [h, Nat.testBit, Nat.and_comm 1, Nat.and_one_is_mod]
  rcases Nat.mod_two_eq_zero_or_one (m >>> j) with h | h <;> rw [h] <;> rfl

structure DS where
  tm : CTm
  B : CHeap
  F : List (Nat × CHeap)
  n : Nat
  q : List Nat
  l : List Nat
  w : List (Nat × Nat)

def selF (m : Nat) : List (Nat × CHeap) → CHeap
  | [] => []
  | (i, h) :: r => match tb m i with | true => h ++ selF m r | false => selF m r

def allF : List (Nat × CHeap) → CHeap
  | [] => []
  | (_, h) :: r => h ++ allF r

def fresh (n : Nat) : CHeap → CHeap
  | [] => []
  | (b, x) :: h => match Nat.ble n b with | true => (b, x) :: fresh n h | false => []

/-- needs no memory and makes none -/
def isFree : Op → Bool
  | .move _ | .assign _ | .pick .. | .build .. | .binOp .. | .unOp .. | .makeFunc .. | .fieldAddr .. | .field .. | .indexAddr .. | .index .. | .extract .. | .slice .. => true
  | .call { callee := .builtin .len, .. } | .call { callee := .builtin .max, .. } | .call { callee := .builtin .min, .. } => true
  | _ => false

def isLoud : Op → Bool
  | .store .. => true
  | .call _ => true
  | _ => false

/-- looks at one block -/
def isLook : Op → Bool
  | .load .. | .nilCheck .. => true
  | _ => false

def lookNum (tm : CTm) : Op → Option Nat
  | .load _ a => match cval tm a with | some (.ptr b _) => some b | _ => none
  | .nilCheck a => match cval tm a with | some (.ptr b _) => some b | _ => none
  | _ => none

/-- a later operation that may write, and does not wait -/
def late (i : Nat) : List Oper → List Nat → Bool
  | o :: r, m :: ms => (isLoud o.op && !tb m i) || late i r ms
  | _, _ => false

/-- the numbers that are looked at while an operation runs -/
def atOnce (m : Nat) : List (Nat × Nat) → List Nat
  | [] => []
  | (i, c) :: r => match tb m i with | true => atOnce m r | false => c :: atOnce m r

def hideAll : List Nat → CHeap → CHeap
  | [], H => H
  | c :: r, H => hdel (hideAll r H) c

def keepAll : List Nat → CHeap → CHeap
  | [], _ => []
  | c :: r, H => match hget H c with | some blk => (c, blk) :: keepAll r H | none => keepAll r H

/-- an operation that is wanted -/
def drun (P : Program) (call : Call) (lo : Nat) (m : Nat) (lt : Bool) (i : Nat) (o : Oper) (tm : CTm) (s : DS) : Option DS :=
  match (if isFree o.op || isLook o.op then cop P call o.op tm [] s.n s.n else none) with
  | some (x, [], n') => if Nat.beq n' s.n then some { s with tm := cput s.tm o.dst x } else none
  | _ =>
  if s.l.all (tb m) then
  match (if isLook o.op && lt then lookNum tm o.op else none) with
  | some c => match hget s.B c with
    | some blk => match cop P call o.op tm [(c, blk)] s.n s.n with
      | some (x, _, n') => if Nat.beq n' s.n then some { s with tm := cput s.tm o.dst x, w := (i, c) :: s.w } else none
      | none => none
    | none => none
  | none => match cop P call o.op tm (selF m s.F ++ s.B) s.n s.n with
    | some (x, H', n') => some ⟨cput s.tm o.dst x, s.B, (i, fresh s.n H') :: s.F, n', i :: s.q, s.l, s.w⟩
    | none => if isLoud o.op && s.q.all (tb m) then
        match cop P call o.op tm (hideAll (atOnce m s.w) (allF s.F ++ s.B)) s.n lo with
        | some (x, H', n') => some ⟨cput s.tm o.dst x, keepAll (atOnce m s.w) (allF s.F ++ s.B) ++ H', [], n', [], i :: s.l, s.w⟩
        | none => none
      else none
  else none

def dstep (P : Program) (call : Call) (N lo : Nat) (ops : Array Oper) (m : Nat) (lt : Bool) (i : Nat) (o : Oper) (s : DS) : Option DS :=
  if isSmall N o.dst then
    match cwanted ops (selT s.tm (looks ops o)) o.guard with
    | none => none
    | some false => some { s with tm := cput s.tm o.dst (.tup []) }
    | some true => drun P call lo m lt i o (selT s.tm (looks ops o)) s
  else none

def dops (P : Program) (call : Call) (N lo : Nat) (ops : Array Oper) : List Oper → List Nat → Nat → DS → Option DS
  | [], _, _, s => some s
  | _ :: _, [], _, _ => none
  | o :: r, m :: ms, i, s => match dstep P call N lo ops m (late i r ms) i o s with
    | some s' => dops P call N lo ops r ms (i + 1) s'
    | none => none

/-- for each operation, which ones stand ahead of it; the last one first -/
def befGo : List Oper → Nat → List Nat → List Nat
  | [], _, acc => acc
  | o :: r, i, acc => befGo r (i + 1) (o.after.toList.foldl (fun s e => match Region.binds .any e with | true => s ||| 2 ^ e.on ||| (match Nat.blt e.on i with | true => acc.getD (i - 1 - e.on) 0 | false => 0) | false => s) 0 :: acc)

def bits (ops : Array Oper) : List Nat := (befGo ops.toList 0 []).reverse

abbrev bm (ops : Array Oper) (i : Nat) : Nat := (bits ops).getD i 0

def cdraw (P : Program) (call : Call) (N lo : Nat) (ops : Array Oper) (cs : CS) : Option CS :=
  match P.follows .mixedOrders && tmpOk ops.toList ops (bits ops) && edgesOk ops with
  | true =>
    match dops P call N lo ops ops.toList (bits ops) 0 ⟨cs.tm, cs.H, [], cs.n, [], [], []⟩ with
    | some s => some ⟨s.tm, allF s.F ++ s.B, s.n⟩
    | none => none
  | false => none


section
variable {P : Program}

/-! ### a step that sees a part of the memory alone -/
theorem vr_relive {E : Env} {L' : Nat → Prop} {x : CV} {v : Value} (h : VR E x v) : VR { E with L := L' } x v := by
  induction h with
  | bool b => exact .bool b
  | int k n => exact .int k n
  | str s => exact .str s
  | ptr b off ad hb hv => exact .ptr b off ad hb hv
  | nilptr => exact .nilptr
  | rop cells off r base vs hI hc _ ih => exact .rop cells off r base vs hI hc ih
  | slice sz b off len cap ad cap' hb hv hl hc => exact .slice sz b off len cap ad cap' hb hv hl hc
  | ro sz xs cap a cap' r o vs h1 h2 h3 h4 h5 _ ih => exact .ro sz xs cap a cap' r o vs h1 h2 h3 h4 h5 ih
  | fn f first captured fs cs h1 h2 _ _ ih1 ih2 => exact .fn f first captured fs cs h1 h2 ih1 ih2
  | nilfn => exact .nilfn
  | agg cs vs h1 _ ih => exact .agg cs vs h1 ih
  | tup cs vs h1 _ ih => exact .tup cs vs h1 ih

/-- the blocks with these numbers are as told, and are the calculus' own -/
def Good (E : Env) (b : Nat) (blk : List CV) : Prop := E.L b ∧ ∃ r, E.ρ b = some r ∧ BR E blk r

/-- what a memory's numbers owe, whatever of it is seen -/
structure Base (E : Env) : Prop where
  inj : ∀ b b' r, E.L b → E.L b' → E.ρ b = some r → E.ρ b' = some r → b = b'
  lt : ∀ b r, E.L b → E.ρ b = some r → ¬ E.I r ∧ r < E.w.heap.size
  Ilt : ∀ r, E.I r → r < E.w.heap.size

theorem HR.base {E : Env} {H : CHeap} (h : HR E H) : Base E := ⟨h.inj, h.lt, h.Ilt⟩
theorem HR.good {E : Env} {H : CHeap} (h : HR E H) {b : Nat} {blk : List CV} (hb : hget H b = some blk) : Good E b blk := ⟨h.live b blk hb, h.get b blk hb⟩
theorem Base.hr {E : Env} {H : CHeap} (h : Base E) (hg : ∀ b blk, hget H b = some blk → Good E b blk) : HR E H :=
  ⟨fun b blk hb => (hg b blk hb).2, fun b blk hb => (hg b blk hb).1, h.inj, h.lt, h.Ilt⟩

def Env.see (E : Env) (D : Nat → Prop) : Env := { E with L := fun b => E.L b ∧ D b }
def Env.whole (E E' : Env) (D : Nat → Prop) : Env := { E' with L := fun b => E'.L b ∨ (E.L b ∧ E.U b ∧ ¬ D b) }

theorem see_ex {E : Env} {D : Nat → Prop} : Ex E (E.see D) :=
  ⟨fun _ _ h => h, fun _ _ h => h.1, fun _ h => ⟨h, rfl⟩, fun _ => Nat.le_refl _, Nat.le_refl _, fun r hr hn => ⟨rfl, fun b hl hb => hn b hl.1 hb⟩, fun _ h => .inl h, .refl _⟩

theorem see_hr {E : Env} {D : Nat → Prop} {H : CHeap} (hb : Base E) (hg : ∀ b blk, hget H b = some blk → D b ∧ Good E b blk) : HR (E.see D) H where
  get b blk h := by
    obtain ⟨_, _, r, hr, c, el, lo, hi, hc, hf, hs, hx⟩ := hg b blk h
    exact ⟨r, hr, c, el, lo, hi, hc, hf, hs, fun j x v h1 h2 => (hx j x v h1 h2).mono see_ex⟩
  live b blk h := ⟨(hg b blk h).2.1, (hg b blk h).1⟩
  inj b b' r l l' h h' := hb.inj b b' r l.1 l'.1 h h'
  lt b r l h := hb.lt b r l.1 h
  Ilt := hb.Ilt

theorem whole_ex {E E' : Env} {D : Nat → Prop} (h : Ex (E.see D) E') : Ex E (E.whole E' D) where
  fwd := h.fwd
  L b hb hl := by
    rcases hl with hl | hl
    · exact (h.L b hb hl).1
    · exact hl.1
  I := h.I
  sz := h.sz
  grow := h.grow
  out r hr hn := by
    obtain ⟨h1, h2⟩ := h.out r hr (fun b hl hb => hn b hl.1 hb)
    refine ⟨h1, fun b hl hb => ?_⟩
    rcases hl with hl | ⟨hl, hu, _⟩
    · exact h2 b hl hb
    · exact hn b hl (h.old b r hu hb)
  io := h.io
  newI r hr := by
    rcases h.newI r hr with h1 | h1 | ⟨b, hl, h1⟩
    · exact .inl h1
    · exact .inr (.inl h1)
    · exact .inr (.inr ⟨b, hl.1, h1⟩)

theorem whole_base {E E' : Env} {D : Nat → Prop} (hb : Base E) (hb' : Base E') (h : Ex (E.see D) E') : Base (E.whole E' D) := by
  have away : ∀ b r, E.L b → E.U b → ¬ D b → E'.ρ b = some r → r < E.w.heap.size ∧ (∀ c, (E.see D).L c → (E.see D).ρ c ≠ some r) ∧ ¬ E.I r := by
    intro b r hl hu hd hr
    have hr' := h.old b r hu hr
    obtain ⟨h1, h2⟩ := hb.lt b r hl hr'
    exact ⟨h2, fun c hc hcr => hd (hb.inj c b r hc.1 hl hcr hr' ▸ hc.2), h1⟩
  refine ⟨fun b b' r l l' hr hr' => ?_, fun b r l hr => ?_, hb'.Ilt⟩
  · rcases l with l | ⟨l, u, d⟩ <;> rcases l' with l' | ⟨l', u', d'⟩
    · exact hb'.inj b b' r l l' hr hr'
    · obtain ⟨h1, h2, _⟩ := away b' r l' u' d' hr'
      exact absurd hr ((h.out r h1 h2).2 b l)
    · obtain ⟨h1, h2, _⟩ := away b r l u d hr
      exact absurd hr' ((h.out r h1 h2).2 b' l')
    · exact hb.inj b b' r l l' (h.old b r u hr) (h.old b' r u' hr')
  · rcases l with l | ⟨l, u, d⟩
    · exact hb'.lt b r l hr
    · obtain ⟨h1, h2, h3⟩ := away b r l u d hr
      refine ⟨fun hI => ?_, Nat.lt_of_lt_of_le h1 h.grow⟩
      rcases h.newI r hI with g | g | ⟨c, gl, g⟩
      · exact h3 g
      · exact absurd h1 (Nat.not_lt.2 g)
      · exact h2 c gl g

theorem whole_good_old {E E' : Env} {D : Nat → Prop} (hb : Base E) (h : Ex (E.see D) E') {b : Nat} {blk : List CV} (hg : Good E b blk) (hd : ¬ D b) : Good (E.whole E' D) b blk := by
  obtain ⟨hl, r, hr, c, el, lo, hi, hc, hf, hs, hx⟩ := hg
  have hu : E.U b := U_iff.2 ⟨r, hr⟩
  have hlt := (hb.lt b r hl hr).2
  have hn : ∀ c, (E.see D).L c → (E.see D).ρ c ≠ some r := fun c hc hcr => hd (hb.inj c b r hc.1 hl hcr hr ▸ hc.2)
  exact ⟨.inr ⟨hl, hu, hd⟩, r, h.fwd b r hr, c, el, lo, hi, ((h.out r hlt hn).1).trans hc, hf, hs, fun j x v h1 h2 => (hx j x v h1 h2).mono (whole_ex h)⟩

theorem whole_vr {E E' : Env} {D : Nat → Prop} {x : CV} {v : Value} (h : VR E' x v) : VR (E.whole E' D) x v := vr_relive h

theorem whole_good_new {E E' : Env} {D : Nat → Prop} {b : Nat} {blk : List CV} (hg : Good E' b blk) : Good (E.whole E' D) b blk := by
  obtain ⟨hl, r, hr, c, el, lo, hi, hc, hf, hs, hx⟩ := hg
  exact ⟨.inl hl, r, hr, c, el, lo, hi, hc, hf, hs, fun j x v h1 h2 => whole_vr (hx j x v h1 h2)⟩

theorem whole_ub {E E' : Env} {D : Nat → Prop} {n n' : Nat} (h : UB (E.see D) E' n n') : UB E (E.whole E' D) n n' := h

/-! ### the bits -/
theorem fold_bits (m : Region.Mode) (g : Edge → Nat) : ∀ (l : List Edge) (s j : Nat), (l.foldl (fun s e => match Region.binds m e with | true => s ||| 2 ^ e.on ||| g e | false => s) s).testBit j = true →
    s.testBit j = true ∨ ∃ e ∈ l, Region.binds m e = true ∧ (j = e.on ∨ (g e).testBit j = true)
  | [], s, j, h => .inl h
  | e :: l, s, j, h => by
    simp only [List.foldl_cons] at h
    rcases fold_bits m g l _ j h with h1 | ⟨e', he, h2⟩
    · split at h1
      · next hb =>
        simp only [Nat.testBit_or, Bool.or_eq_true, Nat.testBit_two_pow] at h1
        rcases h1 with (h1 | h1) | h1
        · exact .inl h1
        · exact .inr ⟨e, by simp, hb, .inl (by simpa using h1 : e.on = j).symm⟩
        · exact .inr ⟨e, by simp, hb, .inr h1⟩
      · exact .inl h1
    · exact .inr ⟨e', by simp [he], h2⟩

theorem befGo_spec : ∀ (l : List Oper) (i0 : Nat) (acc : List Nat), acc.length = i0 → ∃ new : List Nat, befGo l i0 acc = new ++ acc ∧ new.length = l.length ∧
    ∀ k o, l[k]? = some o → ∀ j, ((new ++ acc).getD (l.length - 1 - k) 0).testBit j = true → ∃ e ∈ o.after.toList, Region.binds .any e = true ∧ (j = e.on ∨ (e.on < i0 + k ∧ ((new ++ acc).getD (i0 + l.length - 1 - e.on) 0).testBit j = true))
  | [], i0, acc, _ => ⟨[], by simp [befGo]⟩
  | o :: l, i0, acc, hl => by
    obtain ⟨new, h1, h2, h3⟩ := befGo_spec l (i0 + 1) (o.after.toList.foldl (fun s e => match Region.binds .any e with | true => s ||| 2 ^ e.on ||| (match Nat.blt e.on i0 with | true => acc.getD (i0 - 1 - e.on) 0 | false => 0) | false => s) 0 :: acc) (by simp [hl])
    generalize hm : o.after.toList.foldl (fun s e => match Region.binds .any e with | true => s ||| 2 ^ e.on ||| (match Nat.blt e.on i0 with | true => acc.getD (i0 - 1 - e.on) 0 | false => 0) | false => s) 0 = m at h1 h3
    refine ⟨new ++ [m], by simp only [befGo, hm, h1, List.append_assoc, List.singleton_append], by simp [h2], fun k o' hk j hj => ?_⟩
    rw [List.append_assoc, List.singleton_append] at hj ⊢
    cases k with
    | zero =>
      simp only [List.getElem?_cons_zero, Option.some.injEq] at hk
      subst hk
      simp only [List.length_cons] at hj
      have hj2 : m.testBit j = true := by
        rw [List.getD_eq_getElem?_getD, List.getElem?_append_right (by omega)] at hj
        rw [show l.length + 1 - 1 - 0 - new.length = 0 by omega] at hj
        simpa using hj
      rw [← hm] at hj2
      rcases fold_bits .any _ _ 0 j hj2 with h4 | ⟨e, he, hb, h4⟩
      · simp at h4
      · refine ⟨e, he, hb, ?_⟩
        rcases h4 with h4 | h4
        · exact .inl h4
        · split at h4
          · next hlt =>
            have hlt : e.on < i0 := by simpa using hlt
            refine .inr ⟨by omega, ?_⟩
            simp only [List.length_cons]
            rw [List.getD_eq_getElem?_getD, List.getElem?_append_right (by omega)]
            rw [show i0 + (l.length + 1) - 1 - e.on - new.length = (i0 - 1 - e.on) + 1 by omega]
            simpa using h4
          · simp at h4
    | succ k =>
      simp only [List.getElem?_cons_succ] at hk
      simp only [List.length_cons] at hj ⊢
      obtain ⟨e, he, hb, h4⟩ := h3 k o' hk j (by rwa [show l.length - 1 - k = l.length + 1 - 1 - (k + 1) by omega])
      refine ⟨e, he, hb, h4.imp id fun h5 => ⟨by omega, ?_⟩⟩
      rw [show i0 + (l.length + 1) - 1 - e.on = i0 + 1 + l.length - 1 - e.on by omega]
      exact h5.2

theorem bits_len (ops : Array Oper) : (bits ops).length = ops.size := by
  obtain ⟨new, h1, h2, _⟩ := befGo_spec ops.toList 0 [] rfl
  simp [bits, h1, h2]

theorem before_bits {ops : Array Oper} {i j : Nat} {o : Oper} (ho : ops[i]? = some o) (h : (bm ops i).testBit j = true) :
    ∃ e ∈ o.after.toList, Region.binds .any e = true ∧ (j = e.on ∨ (e.on < i ∧ (bm ops e.on).testBit j = true)) := by
  obtain ⟨new, h1, h2, h3⟩ := befGo_spec ops.toList 0 [] rfl
  have hi : i < ops.size := by
    rcases Nat.lt_or_ge i ops.size with h' | h'
    · exact h'
    · rw [Array.getElem?_eq_none h'] at ho; simp at ho
  have hb : ∀ k, k < ops.size → bm ops k = (new ++ []).getD (ops.toList.length - 1 - k) 0 := by
    intro k hk
    unfold bm bits
    rw [h1, List.getD_eq_getElem?_getD, List.getD_eq_getElem?_getD, List.getElem?_reverse (by simp [h2]; omega)]
    congr 2
    simp [h2]
  obtain ⟨e, he, hbd, h4⟩ := h3 i o (by simpa using ho) j (by rw [← hb i hi]; exact h)
  refine ⟨e, he, hbd, h4.imp id fun h5 => ⟨by omega, ?_⟩⟩
  rw [hb e.on (by omega)]
  have := h5.2
  rwa [Nat.zero_add] at this

end
end Go.Cn
