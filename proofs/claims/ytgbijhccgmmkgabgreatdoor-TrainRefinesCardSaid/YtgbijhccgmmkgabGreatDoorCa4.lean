/- The canonical calculus: contracts. -/
import Derived.Test.YtgbijhccgmmkgabGreatDoorCa3
import Derived.Orders
set_option linter.unusedVariables false
set_option linter.unusedSimpArgs false
noncomputable section
namespace Go.Cn

/-! ### the check and the canonical run, in the written order -/
def tmpsOf : List Operand → List Nat
  | [] => []
  | .tmp t :: r => t :: tmpsOf r
  | _ :: r => tmpsOf r

def looks (ops : Array Oper) (o : Oper) : List Nat :=
  tmpsOf o.op.operands.toList ++ (match o.guard with | some (g, _) => (match ops[g]? with | some p => p.dst.toList | none => []) | none => [])

def dstIs (o : Oper) (t : Nat) : Bool := match o.dst with | some d => Nat.beq d t | none => false

def maskOf (t : Nat) : List (Nat × Nat) → Nat
  | [] => 0
  | (u, m) :: r => if Nat.beq u t then m else maskOf t r

def markAll (i : Nat) : List Nat → List (Nat × Nat) → List (Nat × Nat)
  | [], l => l
  | t :: r, l => markAll i r ((t, maskOf t l ||| 2 ^ i) :: l)

def subMask (m b : Nat) : Bool := Nat.beq (m &&& b) m

/-- who writes a temporary that another names stands ahead of it or behind it -/
def tmpGo (arr : Array Oper) : List Oper → List Nat → Nat → List (Nat × Nat) → List (Nat × Nat) → Bool
  | [], _, _, _, _ => true
  | _ :: _, [], _, _, _ => false
  | o :: r, m :: ms, i, T, W => match o.dst.toList ++ looks arr o with
    | ts => (ts.all (fun t => subMask (maskOf t W) m) && o.dst.toList.all (fun t => subMask (maskOf t T) m)) && tmpGo arr r ms (i + 1) (markAll i ts T) (markAll i o.dst.toList W)

def tmpOk (ops : List Oper) (arr : Array Oper) (b : List Nat) : Bool := tmpGo arr ops b 0 [] []

theorem um1 {i t j : Nat} : ∀ {ts : List Nat} {l : List (Nat × Nat)}, (maskOf t l).testBit j = true → (maskOf t (markAll i ts l)).testBit j = true
  | [], l, h => h
  | u :: ts, l, h => by
    refine um1 (ts := ts) ?_
    simp only [maskOf]
    by_cases e : u = t
    · subst e; simp [h]
    · simp [e, h]

theorem maskOf_hit {i t : Nat} : ∀ {ts : List Nat} {l : List (Nat × Nat)}, t ∈ ts → (maskOf t (markAll i ts l)).testBit i = true
  | u :: ts, l, h => by
    by_cases e : u = t
    · subst e
      refine um1 (ts := ts) ?_
      simp [maskOf]
    · exact maskOf_hit (ts := ts) ((List.mem_cons.1 h).resolve_left fun e' => e e'.symm)

theorem subMask_spec {m b j : Nat} (h : subMask m b = true) (hj : m.testBit j = true) : b.testBit j = true := by
  have h1 : m &&& b = m := Nat.eq_of_beq_eq_true h
  rw [← h1, Nat.testBit_and] at hj
  simp only [Bool.and_eq_true] at hj
  exact hj.2

theorem tmpGo_spec {arr : Array Oper} : ∀ (ops : List Oper) (ms : List Nat) (i0 : Nat) (T W : List (Nat × Nat)), tmpGo arr ops ms i0 T W = true →
    (∀ k o t, ops[k]? = some o → t ∈ o.dst.toList ++ looks arr o → ∀ j, (maskOf t W).testBit j = true → (ms.getD k 0).testBit j = true) ∧
    (∀ k o t, ops[k]? = some o → o.dst = some t → ∀ j, (maskOf t T).testBit j = true → (ms.getD k 0).testBit j = true) ∧
    (∀ k k' o o' t, k < k' → ops[k]? = some o → ops[k']? = some o' → o.dst = some t → t ∈ o'.dst.toList ++ looks arr o' → (ms.getD k' 0).testBit (i0 + k) = true) ∧
    (∀ k k' o o' t, k < k' → ops[k]? = some o → ops[k']? = some o' → o'.dst = some t → t ∈ o.dst.toList ++ looks arr o → (ms.getD k' 0).testBit (i0 + k) = true)
  | [], _, i0, T, W, _ => by simp
  | _ :: _, [], i0, T, W, h => by simp [tmpGo] at h
  | o0 :: r, m :: ms, i0, T, W, h => by
    simp only [tmpGo, Bool.and_eq_true, List.all_eq_true] at h
    obtain ⟨⟨h1, h2⟩, h3⟩ := h
    obtain ⟨g1, g2, g3, g4⟩ := tmpGo_spec r ms (i0 + 1) _ _ h3
    refine ⟨fun k o t hk ht j hj => ?_, fun k o t hk ht j hj => ?_, fun k k' o o' t hkk hk hk' hd ht => ?_, fun k k' o o' t hkk hk hk' hd ht => ?_⟩
    · cases k with
      | zero => simp at hk; subst hk; exact subMask_spec (h1 t ht) hj
      | succ k => simpa using g1 k o t (by simpa using hk) ht j (um1 hj)
    · cases k with
      | zero => simp at hk; subst hk; exact subMask_spec (h2 t (by simp [ht])) hj
      | succ k => simpa using g2 k o t (by simpa using hk) ht j (um1 hj)
    · cases k' with
      | zero => omega
      | succ k' =>
        cases k with
        | zero =>
          simp at hk; subst hk
          simpa using g1 k' o' t (by simpa using hk') ht i0 (maskOf_hit (by simp [hd]))
        | succ k =>
          have := g3 k k' o o' t (by omega) (by simpa using hk) (by simpa using hk') hd ht
          rw [show i0 + 1 + k = i0 + (k + 1) by omega] at this
          simpa using this
    · cases k' with
      | zero => omega
      | succ k' =>
        cases k with
        | zero =>
          simp at hk; subst hk
          simpa using g2 k' o' t (by simpa using hk') hd i0 (maskOf_hit ht)
        | succ k =>
          have := g4 k k' o o' t (by omega) (by simpa using hk) (by simpa using hk') hd ht
          rw [show i0 + 1 + k = i0 + (k + 1) by omega] at this
          simpa using this

def edgesGo : List Oper → Nat → Bool
  | [], _ => true
  | o :: r, i => o.after.toList.all (fun e => !Region.binds .any e || Nat.blt e.on i) && edgesGo r (i + 1)

/-- what an operation hangs on stands ahead of it -/
def edgesOk (ops : Array Oper) : Bool := edgesGo ops.toList 0

theorem edgesGo_spec : ∀ (ops : List Oper) (i0 : Nat), edgesGo ops i0 = true → ∀ k o, ops[k]? = some o → ∀ e ∈ o.after.toList, Region.binds .any e = true → e.on < i0 + k
  | [], _, _, k, o, hk => by simp at hk
  | o0 :: r, i0, h, k, o, hk => by
    intro e he hb
    simp only [edgesGo, Bool.and_eq_true, List.all_eq_true] at h
    cases k with
    | zero =>
      simp at hk; subst hk
      have := h.1 e he
      simpa [hb] using this
    | succ k =>
      have := edgesGo_spec r (i0 + 1) h.2 k o (by simpa using hk) e he hb
      omega

def selT (tm : CTm) : List Nat → CTm
  | [] => []
  | t :: r => match tget tm t with | some x => (t, x) :: selT tm r | none => selT tm r

/-- a bit of a mask -/
def tb (m j : Nat) : Bool := Nat.beq (Nat.land (Nat.shiftRight m j) 1) 1

theorem tb_eq (m j : Nat) : tb m j = m.testBit j := by
  have h : Nat.land (Nat.shiftRight m j) 1 = (m >>> j) &&& 1 := rfl
  unfold tb
  rw [h, Nat.testBit, Nat.and_comm 1, Nat.and_one_is_mod]
  rcases Nat.mod_two_eq_zero_or_one (m >>> j) with h | h <;> rw [h] <;> rfl

structure DS where
  tm : CTm
  B : ua8
  F : List (Nat × ua8)
  n : Nat
  q : List Nat
  l : List Nat
  w : List (Nat × Nat)

def selF (m : Nat) : List (Nat × ua8) → ua8
  | [] => []
  | (i, h) :: r => match tb m i with | true => h ++ selF m r | false => selF m r

def allF : List (Nat × ua8) → ua8
  | [] => []
  | (_, h) :: r => h ++ allF r

def fresh (n : Nat) : ua8 → ua8
  | [] => []
  | (b, x) :: h => match Nat.ble n b with | true => (b, x) :: fresh n h | false => []

/-- needs no memory and makes none -/
def isFree : Op → Bool
  | .move _ | .assign _ | .pick .. | .build .. | .binOp .. | .unOp .. | .makeFunc .. | .fieldAddr .. | .field .. | .indexAddr .. | .index .. | .extract .. | .slice .. => true
  | .call { callee := .builtin .len, .. } | .call { callee := .builtin .max, .. } | .call { callee := .builtin .min, .. } => true
  | _ => false

def isLoud : Op → Bool
  | .store .. => true
  | .call _ => true
  | _ => false

/-- looks at one block -/
def isLook : Op → Bool
  | .load .. | .nilCheck .. => true
  | _ => false

def lookNum (tm : CTm) : Op → Option Nat
  | .load _ a => match cval tm a with | some (.ptr b _) => some b | _ => none
  | .nilCheck a => match cval tm a with | some (.ptr b _) => some b | _ => none
  | _ => none

/-- a later operation that may write, and does not wait -/
def late (i : Nat) : List Oper → List Nat → Bool
  | o :: r, m :: ms => (isLoud o.op && !tb m i) || late i r ms
  | _, _ => false

/-- the numbers that are looked at while an operation runs -/
def atOnce (m : Nat) : List (Nat × Nat) → List Nat
  | [] => []
  | (i, c) :: r => match tb m i with | true => atOnce m r | false => c :: atOnce m r

def hideAll : List Nat → ua8 → ua8
  | [], H => H
  | c :: r, H => hdel (hideAll r H) c

def keepAll : List Nat → ua8 → ua8
  | [], _ => []
  | c :: r, H => match hget H c with | some blk => (c, blk) :: keepAll r H | none => keepAll r H

/-- an operation that is wanted -/
def drun (P : Program) (call : Call) (lo : Nat) (m : Nat) (lt : Bool) (i : Nat) (o : Oper) (tm : CTm) (s : DS) : Option DS :=
  match (if isFree o.op || isLook o.op then cop P call o.op tm [] s.n s.n else none) with
  | some (x, [], n') => if Nat.beq n' s.n then some { s with tm := cput s.tm o.dst x } else none
  | _ =>
  if s.l.all (tb m) then
  match (if isLook o.op && lt then lookNum tm o.op else none) with
  | some c => match hget s.B c with
    | some blk => match cop P call o.op tm [(c, blk)] s.n s.n with
      | some (x, _, n') => if Nat.beq n' s.n then some { s with tm := cput s.tm o.dst x, w := (i, c) :: s.w } else none
      | none => none
    | none => none
  | none => match cop P call o.op tm (selF m s.F ++ s.B) s.n s.n with
    | some (x, H', n') => some ⟨cput s.tm o.dst x, s.B, (i, fresh s.n H') :: s.F, n', i :: s.q, s.l, s.w⟩
    | none => if isLoud o.op && s.q.all (tb m) then
        match cop P call o.op tm (hideAll (atOnce m s.w) (allF s.F ++ s.B)) s.n lo with
        | some (x, H', n') => some ⟨cput s.tm o.dst x, keepAll (atOnce m s.w) (allF s.F ++ s.B) ++ H', [], n', [], i :: s.l, s.w⟩
        | none => none
      else none
  else none

def dstep (P : Program) (call : Call) (N lo : Nat) (ops : Array Oper) (m : Nat) (lt : Bool) (i : Nat) (o : Oper) (s : DS) : Option DS :=
  if isSmall N o.dst then
    match cwanted ops (selT s.tm (looks ops o)) o.guard with
    | none => none
    | some false => some { s with tm := cput s.tm o.dst (.tup []) }
    | some true => drun P call lo m lt i o (selT s.tm (looks ops o)) s
  else none

def dops (P : Program) (call : Call) (N lo : Nat) (ops : Array Oper) : List Oper → List Nat → Nat → DS → Option DS
  | [], _, _, s => some s
  | _ :: _, [], _, _ => none
  | o :: r, m :: ms, i, s => match dstep P call N lo ops m (late i r ms) i o s with
    | some s' => dops P call N lo ops r ms (i + 1) s'
    | none => none

/-- for each operation, which ones stand ahead of it; the last one first -/
def befGo : List Oper → Nat → List Nat → List Nat
  | [], _, acc => acc
  | o :: r, i, acc => befGo r (i + 1) (o.after.toList.foldl (fun s e => match Region.binds .any e with | true => s ||| 2 ^ e.on ||| (match Nat.blt e.on i with | true => acc.getD (i - 1 - e.on) 0 | false => 0) | false => s) 0 :: acc)

def bits (ops : Array Oper) : List Nat := (befGo ops.toList 0 []).reverse

abbrev bm (ops : Array Oper) (i : Nat) : Nat := (bits ops).getD i 0

def cdraw (P : Program) (call : Call) (N lo : Nat) (ops : Array Oper) (cs : CS) : Option CS :=
  match P.follows .mixedOrders && tmpOk ops.toList ops (bits ops) && edgesOk ops with
  | true =>
    match dops P call N lo ops ops.toList (bits ops) 0 ⟨cs.tm, cs.H, [], cs.n, [], [], []⟩ with
    | some s => some ⟨s.tm, allF s.F ++ s.B, s.n⟩
    | none => none
  | false => none


section
variable {P : Program}

/-! ### a step that sees a part of the memory alone -/
theorem vr_relive {E : Env} {L' : Nat → Prop} {x : CV} {v : Value} (h : VR E x v) : VR { E with L := L' } x v := by
  induction h with
  | bool b => exact .bool b
  | int k n => exact .int k n
  | str s => exact .str s
  | ptr b off ad hb hv => exact .ptr b off ad hb hv
  | nilptr => exact .nilptr
  | rop cells off r base vs hI hc _ ih => exact .rop cells off r base vs hI hc ih
  | slice sz b off len cap ad cap' hb hv hl hc => exact .slice sz b off len cap ad cap' hb hv hl hc
  | ro sz xs cap a cap' r o vs h1 h2 h3 h4 h5 _ ih => exact .ro sz xs cap a cap' r o vs h1 h2 h3 h4 h5 ih
  | fn f first captured fs cs h1 h2 _ _ ih1 ih2 => exact .fn f first captured fs cs h1 h2 ih1 ih2
  | nilfn => exact .nilfn
  | agg cs vs h1 _ ih => exact .agg cs vs h1 ih
  | tup cs vs h1 _ ih => exact .tup cs vs h1 ih

/-- the blocks with these numbers are as told, and are the calculus' own -/
def Good (E : Env) (b : Nat) (blk : List CV) : Prop := E.L b ∧ ∃ r, E.ρ b = some r ∧ BR E blk r

/-- what a memory's numbers owe, whatever of it is seen -/
structure Base (E : Env) : Prop where
  inj : ∀ b b' r, E.L b → E.L b' → E.ρ b = some r → E.ρ b' = some r → b = b'
  lt : ∀ b r, E.L b → E.ρ b = some r → ¬ E.I r ∧ r < E.w.heap.size
  Ilt : ∀ r, E.I r → r < E.w.heap.size

theorem HR.base {E : Env} {H : ua8} (h : HR E H) : Base E := ⟨h.inj, h.lt, h.Ilt⟩
theorem HR.good {E : Env} {H : ua8} (h : HR E H) {b : Nat} {blk : List CV} (hb : hget H b = some blk) : Good E b blk := ⟨h.live b blk hb, h.get b blk hb⟩
theorem Base.hr {E : Env} {H : ua8} (h : Base E) (hg : ∀ b blk, hget H b = some blk → Good E b blk) : HR E H :=
  ⟨fun b blk hb => (hg b blk hb).2, fun b blk hb => (hg b blk hb).1, h.inj, h.lt, h.Ilt⟩

def Env.see (E : Env) (D : Nat → Prop) : Env := { E with L := fun b => E.L b ∧ D b }
def Env.whole (E E' : Env) (D : Nat → Prop) : Env := { E' with L := fun b => E'.L b ∨ (E.L b ∧ E.U b ∧ ¬ D b) }

theorem see_ex {E : Env} {D : Nat → Prop} : Ex E (E.see D) :=
  ⟨fun _ _ h => h, fun _ _ h => h.1, fun _ h => ⟨h, rfl⟩, fun _ => Nat.le_refl _, Nat.le_refl _, fun r hr hn => ⟨rfl, fun b hl hb => hn b hl.1 hb⟩, fun _ h => .inl h, .refl _⟩

theorem see_hr {E : Env} {D : Nat → Prop} {H : ua8} (hb : Base E) (hg : ∀ b blk, hget H b = some blk → D b ∧ Good E b blk) : HR (E.see D) H where
  get b blk h := by
    obtain ⟨_, _, r, hr, c, el, lo, hi, hc, hf, hs, hx⟩ := hg b blk h
    exact ⟨r, hr, c, el, lo, hi, hc, hf, hs, fun j x v h1 h2 => (hx j x v h1 h2).mono see_ex⟩
  live b blk h := ⟨(hg b blk h).2.1, (hg b blk h).1⟩
  inj b b' r l l' h h' := hb.inj b b' r l.1 l'.1 h h'
  lt b r l h := hb.lt b r l.1 h
  Ilt := hb.Ilt

theorem whole_ex {E E' : Env} {D : Nat → Prop} (h : Ex (E.see D) E') : Ex E (E.whole E' D) where
  fwd := h.fwd
  L b hb hl := by
    rcases hl with hl | hl
    · exact (h.L b hb hl).1
    · exact hl.1
  I := h.I
  sz := h.sz
  grow := h.grow
  out r hr hn := by
    obtain ⟨h1, h2⟩ := h.out r hr (fun b hl hb => hn b hl.1 hb)
    refine ⟨h1, fun b hl hb => ?_⟩
    rcases hl with hl | ⟨hl, hu, _⟩
    · exact h2 b hl hb
    · exact hn b hl (h.old b r hu hb)
  io := h.io
  newI r hr := by
    rcases h.newI r hr with h1 | h1 | ⟨b, hl, h1⟩
    · exact .inl h1
    · exact .inr (.inl h1)
    · exact .inr (.inr ⟨b, hl.1, h1⟩)

theorem un7 {E E' : Env} {D : Nat → Prop} (hb : Base E) (hb' : Base E') (h : Ex (E.see D) E') : Base (E.whole E' D) := by
  have away : ∀ b r, E.L b → E.U b → ¬ D b → E'.ρ b = some r → r < E.w.heap.size ∧ (∀ c, (E.see D).L c → (E.see D).ρ c ≠ some r) ∧ ¬ E.I r := by
    intro b r hl hu hd hr
    have hr' := h.old b r hu hr
    obtain ⟨h1, h2⟩ := hb.lt b r hl hr'
    exact ⟨h2, fun c hc hcr => hd (hb.inj c b r hc.1 hl hcr hr' ▸ hc.2), h1⟩
  refine ⟨fun b b' r l l' hr hr' => ?_, fun b r l hr => ?_, hb'.Ilt⟩
  · rcases l with l | ⟨l, u, d⟩ <;> rcases l' with l' | ⟨l', u', d'⟩
    · exact hb'.inj b b' r l l' hr hr'
    · obtain ⟨h1, h2, _⟩ := away b' r l' u' d' hr'
      exact absurd hr ((h.out r h1 h2).2 b l)
    · obtain ⟨h1, h2, _⟩ := away b r l u d hr
      exact absurd hr' ((h.out r h1 h2).2 b' l')
    · exact hb.inj b b' r l l' (h.old b r u hr) (h.old b' r u' hr')
  · rcases l with l | ⟨l, u, d⟩
    · exact hb'.lt b r l hr
    · obtain ⟨h1, h2, h3⟩ := away b r l u d hr
      refine ⟨fun hI => ?_, Nat.lt_of_lt_of_le h1 h.grow⟩
      rcases h.newI r hI with g | g | ⟨c, gl, g⟩
      · exact h3 g
      · exact absurd h1 (Nat.not_lt.2 g)
      · exact h2 c gl g

theorem ue2 {E E' : Env} {D : Nat → Prop} (hb : Base E) (h : Ex (E.see D) E') {b : Nat} {blk : List CV} (hg : Good E b blk) (hd : ¬ D b) : Good (E.whole E' D) b blk := by
  obtain ⟨hl, r, hr, c, el, lo, hi, hc, hf, hs, hx⟩ := hg
  have hu : E.U b := uj8.2 ⟨r, hr⟩
  have hlt := (hb.lt b r hl hr).2
  have hn : ∀ c, (E.see D).L c → (E.see D).ρ c ≠ some r := fun c hc hcr => hd (hb.inj c b r hc.1 hl hcr hr ▸ hc.2)
  exact ⟨.inr ⟨hl, hu, hd⟩, r, h.fwd b r hr, c, el, lo, hi, ((h.out r hlt hn).1).trans hc, hf, hs, fun j x v h1 h2 => (hx j x v h1 h2).mono (whole_ex h)⟩

theorem whole_vr {E E' : Env} {D : Nat → Prop} {x : CV} {v : Value} (h : VR E' x v) : VR (E.whole E' D) x v := vr_relive h

theorem uf9 {E E' : Env} {D : Nat → Prop} {b : Nat} {blk : List CV} (hg : Good E' b blk) : Good (E.whole E' D) b blk := by
  obtain ⟨hl, r, hr, c, el, lo, hi, hc, hf, hs, hx⟩ := hg
  exact ⟨.inl hl, r, hr, c, el, lo, hi, hc, hf, hs, fun j x v h1 h2 => whole_vr (hx j x v h1 h2)⟩

/-! ### the bits -/
theorem fold_bits (m : Region.Mode) (g : Edge → Nat) : ∀ (l : List Edge) (s j : Nat), (l.foldl (fun s e => match Region.binds m e with | true => s ||| 2 ^ e.on ||| g e | false => s) s).testBit j = true →
    s.testBit j = true ∨ ∃ e ∈ l, Region.binds m e = true ∧ (j = e.on ∨ (g e).testBit j = true)
  | [], s, j, h => .inl h
  | e :: l, s, j, h => by
    simp only [List.foldl_cons] at h
    rcases fold_bits m g l _ j h with h1 | ⟨e', he, h2⟩
    · split at h1
      · next hb =>
        simp only [Nat.testBit_or, Bool.or_eq_true, Nat.testBit_two_pow] at h1
        rcases h1 with (h1 | h1) | h1
        · exact .inl h1
        · exact .inr ⟨e, by simp, hb, .inl (by simpa using h1 : e.on = j).symm⟩
        · exact .inr ⟨e, by simp, hb, .inr h1⟩
      · exact .inl h1
    · exact .inr ⟨e', by simp [he], h2⟩

theorem befGo_spec : ∀ (l : List Oper) (i0 : Nat) (acc : List Nat), acc.length = i0 → ∃ new : List Nat, befGo l i0 acc = new ++ acc ∧ new.length = l.length ∧
    ∀ k o, l[k]? = some o → ∀ j, ((new ++ acc).getD (l.length - 1 - k) 0).testBit j = true → ∃ e ∈ o.after.toList, Region.binds .any e = true ∧ (j = e.on ∨ (e.on < i0 + k ∧ ((new ++ acc).getD (i0 + l.length - 1 - e.on) 0).testBit j = true))
  | [], i0, acc, _ => ⟨[], by simp [befGo]⟩
  | o :: l, i0, acc, hl => by
    obtain ⟨new, h1, h2, h3⟩ := befGo_spec l (i0 + 1) (o.after.toList.foldl (fun s e => match Region.binds .any e with | true => s ||| 2 ^ e.on ||| (match Nat.blt e.on i0 with | true => acc.getD (i0 - 1 - e.on) 0 | false => 0) | false => s) 0 :: acc) (by simp [hl])
    generalize hm : o.after.toList.foldl (fun s e => match Region.binds .any e with | true => s ||| 2 ^ e.on ||| (match Nat.blt e.on i0 with | true => acc.getD (i0 - 1 - e.on) 0 | false => 0) | false => s) 0 = m at h1 h3
    refine ⟨new ++ [m], by simp only [befGo, hm, h1, List.append_assoc, List.singleton_append], by simp [h2], fun k o' hk j hj => ?_⟩
    rw [List.append_assoc, List.singleton_append] at hj ⊢
    cases k with
    | zero =>
      simp only [List.getElem?_cons_zero, Option.some.injEq] at hk
      subst hk
      simp only [List.length_cons] at hj
      have hj2 : m.testBit j = true := by
        rw [List.getD_eq_getElem?_getD, List.getElem?_append_right (by omega)] at hj
        rw [show l.length + 1 - 1 - 0 - new.length = 0 by omega] at hj
        simpa using hj
      rw [← hm] at hj2
      rcases fold_bits .any _ _ 0 j hj2 with h4 | ⟨e, he, hb, h4⟩
      · simp at h4
      · refine ⟨e, he, hb, ?_⟩
        rcases h4 with h4 | h4
        · exact .inl h4
        · split at h4
          · next hlt =>
            have hlt : e.on < i0 := by simpa using hlt
            refine .inr ⟨by omega, ?_⟩
            simp only [List.length_cons]
            rw [List.getD_eq_getElem?_getD, List.getElem?_append_right (by omega)]
            rw [show i0 + (l.length + 1) - 1 - e.on - new.length = (i0 - 1 - e.on) + 1 by omega]
            simpa using h4
          · simp at h4
    | succ k =>
      simp only [List.getElem?_cons_succ] at hk
      simp only [List.length_cons] at hj ⊢
      obtain ⟨e, he, hb, h4⟩ := h3 k o' hk j (by rwa [show l.length - 1 - k = l.length + 1 - 1 - (k + 1) by omega])
      refine ⟨e, he, hb, h4.imp id fun h5 => ⟨by omega, ?_⟩⟩
      rw [show i0 + (l.length + 1) - 1 - e.on = i0 + 1 + l.length - 1 - e.on by omega]
      exact h5.2

theorem before_bits {ops : Array Oper} {i j : Nat} {o : Oper} (ho : ops[i]? = some o) (h : (bm ops i).testBit j = true) :
    ∃ e ∈ o.after.toList, Region.binds .any e = true ∧ (j = e.on ∨ (e.on < i ∧ (bm ops e.on).testBit j = true)) := by
  obtain ⟨new, h1, h2, h3⟩ := befGo_spec ops.toList 0 [] rfl
  have hi : i < ops.size := by
    rcases Nat.lt_or_ge i ops.size with h' | h'
    · exact h'
    · rw [Array.getElem?_eq_none h'] at ho; simp at ho
  have hb : ∀ k, k < ops.size → bm ops k = (new ++ []).getD (ops.toList.length - 1 - k) 0 := by
    intro k hk
    unfold bm bits
    rw [h1, List.getD_eq_getElem?_getD, List.getD_eq_getElem?_getD, List.getElem?_reverse (by simp [h2]; omega)]
    congr 2
    simp [h2]
  obtain ⟨e, he, hbd, h4⟩ := h3 i o (by simpa using ho) j (by rw [← hb i hi]; exact h)
  refine ⟨e, he, hbd, h4.imp id fun h5 => ⟨by omega, ?_⟩⟩
  rw [hb e.on (by omega)]
  have := h5.2
  rwa [Nat.zero_add] at this

end
end Go.Cn
end
noncomputable section
namespace Go.Cn

section
variable {P : Program}

/-! ### one canonical step, by kinds -/
inductive DK (P : Program) (lo : Nat) (ops : Array Oper) (m : Nat) (i : Nat) (o : Oper) (s : DS) : Nat → DS → Prop
  | skip : cwanted ops (selT s.tm (looks ops o)) o.guard = some false → DK P lo ops m i o s 0 { s with tm := cput s.tm o.dst (.tup []) }
  | free (x : CV) : cwanted ops (selT s.tm (looks ops o)) o.guard = some true → OpOk P o (selT s.tm (looks ops o)) [] s.n s.n x [] s.n → DK P lo ops m i o s 0 { s with tm := cput s.tm o.dst x }
  | quiet (x : CV) (H' : ua8) (n' : Nat) : cwanted ops (selT s.tm (looks ops o)) o.guard = some true → (∀ j ∈ s.l, m.testBit j = true) →
      OpOk P o (selT s.tm (looks ops o)) (selF m s.F ++ s.B) s.n s.n x H' n' → DK P lo ops m i o s 1 ⟨cput s.tm o.dst x, s.B, (i, fresh s.n H') :: s.F, n', i :: s.q, s.l, s.w⟩
  | loud (x : CV) (H' : ua8) (n' : Nat) : cwanted ops (selT s.tm (looks ops o)) o.guard = some true → (∀ j ∈ s.l, m.testBit j = true) → (∀ j ∈ s.q, m.testBit j = true) →
      OpOk P o (selT s.tm (looks ops o)) (hideAll (atOnce m s.w) (allF s.F ++ s.B)) s.n lo x H' n' →
      DK P lo ops m i o s 2 ⟨cput s.tm o.dst x, keepAll (atOnce m s.w) (allF s.F ++ s.B) ++ H', [], n', [], i :: s.l, s.w⟩
  | watch (x : CV) (c : Nat) (blk : List CV) (H' : ua8) : cwanted ops (selT s.tm (looks ops o)) o.guard = some true → (∀ j ∈ s.l, m.testBit j = true) → hget s.B c = some blk →
      OpOk P o (selT s.tm (looks ops o)) [(c, blk)] s.n s.n x H' s.n → DK P lo ops m i o s 3 { s with tm := cput s.tm o.dst x, w := (i, c) :: s.w }

theorem dstep_kinds {call : Call} (hS : ue5 P call) {N lo : Nat} {ops : Array Oper} {m : Nat} {lt : Bool} {i : Nat} {o : Oper} {s s' : DS} (h : dstep P call N lo ops m lt i o s = some s') : isSmall N o.dst = true ∧ ∃ k, DK P lo ops m i o s k s' := by
  unfold dstep at h
  split at h <;> try (simp at h; done)
  next hs =>
  refine ⟨hs, ?_⟩
  split at h <;> try (simp at h; done)
  · next hw => simp at h; subst h; exact ⟨0, .skip hw⟩
  · next hw =>
    unfold drun at h
    split at h
    · next x n' hc =>
      split at h <;> simp only [Option.some.injEq, reduceCtorEq] at h
      next hn =>
      obtain rfl := Nat.eq_of_beq_eq_true hn
      subst h
      split at hc <;> try (simp at hc; done)
      exact ⟨0, .free x hw (ud5 hS hc)⟩
    · split at h <;> try (simp at h; done)
      next hl =>
      have hl' : ∀ j ∈ s.l, m.testBit j = true := by simpa [tb_eq] using hl
      split at h
      · next c hc =>
        split at h <;> try (simp at h; done)
        next blk hb =>
        split at h <;> try (simp at h; done)
        next x H' n' hx =>
        split at h <;> simp only [Option.some.injEq, reduceCtorEq] at h
        next hn =>
        obtain rfl := Nat.eq_of_beq_eq_true hn
        subst h
        exact ⟨3, .watch x c blk H' hw hl' hb (ud5 hS hx)⟩
      · split at h
        · next x H' n' hc =>
          simp at h; subst h
          exact ⟨1, .quiet x H' n' hw hl' (ud5 hS hc)⟩
        · split at h <;> try (simp at h; done)
          next hq =>
          split at h <;> simp only [Option.some.injEq, reduceCtorEq] at h
          next x H' n' hc =>
          subst h
          simp only [Bool.and_eq_true, List.all_eq_true, tb_eq] at hq
          exact ⟨2, .loud x H' n' hw hl' hq.2 (ud5 hS hc)⟩

theorem mem_atOnce {m i c : Nat} : ∀ {w : List (Nat × Nat)}, (i, c) ∈ w → m.testBit i ≠ true → c ∈ atOnce m w
  | [], h, _ => by simp at h
  | (j, d) :: w, h, hm => by
    simp only [atOnce]
    rcases List.mem_cons.1 h with h | h
    · cases h
      split
      · next e => rw [tb_eq] at e; exact absurd e hm
      · simp
    · split
      · exact mem_atOnce h hm
      · exact List.mem_cons_of_mem _ (mem_atOnce h hm)

theorem hide_mem {c : Nat} : ∀ {ws : List Nat} {H : ua8}, c ∈ ws → hget (hideAll ws H) c = none
  | [], _, h => by simp at h
  | d :: ws, H, h => by
    simp only [hideAll, ug1]
    split
    · rfl
    · next e => exact hide_mem ((List.mem_cons.1 h).resolve_left fun e' => e e'.symm)

theorem hide_not {c : Nat} : ∀ {ws : List Nat} {H : ua8}, c ∉ ws → hget (hideAll ws H) c = hget H c
  | [], _, h => rfl
  | d :: ws, H, h => by
    simp only [List.mem_cons, not_or] at h
    simp only [hideAll, ug1]
    rw [if_neg (fun e => h.1 e.symm)]
    exact hide_not h.2

theorem un5 {c : Nat} {ws : List Nat} {H : ua8} {blk : List CV} (h : hget (hideAll ws H) c = some blk) : c ∉ ws ∧ hget H c = some blk := by
  by_cases hc : c ∈ ws
  · rw [hide_mem hc] at h; simp at h
  · exact ⟨hc, by rw [hide_not hc] at h; exact h⟩

theorem uo3 {c : Nat} : ∀ {ws : List Nat} {H : ua8}, c ∈ ws → hget (keepAll ws H) c = hget H c
  | [], _, h => by simp at h
  | d :: ws, H, h => by
    simp only [keepAll]
    by_cases e : d = c
    · subst e
      split
      · next hb => rw [ub2, if_pos rfl, hb]
      · next hb =>
        by_cases hc : d ∈ ws
        · exact uo3 hc
        · rw [hb]
          cases hk : hget (keepAll ws H) d with
          | none => rfl
          | some blk =>
            exfalso
            have : ∀ (ws : List Nat), hget (keepAll ws H) d = some blk → hget H d = some blk := by
              intro ws
              induction ws with
              | nil => intro hz; simp [keepAll, uc2, ub2] at hz
              | cons d' ws ih =>
                intro hz
                simp only [keepAll] at hz
                split at hz
                · next b' hb' =>
                  rw [ub2] at hz
                  by_cases e2 : d' = d
                  · rw [if_pos e2] at hz; rw [← e2, hb', hz]
                  · rw [if_neg e2] at hz; exact ih hz
                · exact ih hz
            rw [this ws hk] at hb; simp at hb
    · have hc := (List.mem_cons.1 h).resolve_left fun e' => e e'.symm
      split
      · rw [ub2, if_neg e]; exact uo3 hc
      · exact uo3 hc

theorem keep_not {c : Nat} : ∀ {ws : List Nat} {H : ua8}, c ∉ ws → hget (keepAll ws H) c = none
  | [], _, h => rfl
  | d :: ws, H, h => by
    simp only [List.mem_cons, not_or] at h
    simp only [keepAll]
    split
    · rw [ub2, if_neg (fun e => h.1 e.symm)]; exact keep_not h.2
    · exact keep_not h.2

theorem keep_some {c : Nat} {ws : List Nat} {H : ua8} {blk : List CV} (h : hget (keepAll ws H) c = some blk) : c ∈ ws ∧ hget H c = some blk := by
  by_cases hc : c ∈ ws
  · exact ⟨hc, by rw [uo3 hc] at h; exact h⟩
  · rw [keep_not hc] at h; simp at h

/-- the whole run: D i is the state ahead of operation i -/
structure uf3 (P : Program) (N lo : Nat) (ops : Array Oper) (D : Nat → DS) (K : Nat → Nat) : Prop where
  step : ∀ i, i < ops.size → ∃ o, ops[i]? = some o ∧ isSmall N o.dst = true ∧ DK P lo ops (bm ops i) i o (D i) (K i) (D (i + 1))
  q0 : (D 0).q = []
  l0 : (D 0).l = []
  F0 : (D 0).F = []
  keys0 : Keys (D 0).B (D 0).n

theorem dops_trace {call : Call} (hS : ue5 P call) {N lo : Nat} {ops : Array Oper} : ∀ (rest : List Oper) (ms : List Nat) (i : Nat) (s s' : DS), dops P call N lo ops rest ms i s = some s' →
    ∃ (D : Nat → DS) (K : Nat → Nat), D i = s ∧ D (i + rest.length) = s' ∧ ∀ k o, rest[k]? = some o → isSmall N o.dst = true ∧ DK P lo ops (ms.getD k 0) (i + k) o (D (i + k)) (K (i + k)) (D (i + k + 1))
  | [], ms, i, s, s', h => by
    simp [dops] at h; subst h
    exact ⟨fun _ => s, fun _ => 0, rfl, rfl, fun k o ho => by simp at ho⟩
  | _ :: _, [], i, s, s', h => by simp [dops] at h
  | o :: rest, m :: ms, i, s, s', h => by
    simp only [dops] at h
    split at h <;> try (simp at h; done)
    next s1 h1 =>
    obtain ⟨D, K, d1, d2, d3⟩ := dops_trace hS rest ms (i + 1) s1 s' h
    obtain ⟨hs, k, hk⟩ := dstep_kinds hS h1
    refine ⟨fun j => if j = i then s else D j, fun j => if j = i then k else K j, by simp, ?_, fun k' o' ho => ?_⟩
    · have : i + (o :: rest).length ≠ i := by simp
      dsimp only
      rw [if_neg this, ← d2]
      congr 1
      simp; omega
    · cases k' with
      | zero =>
        simp at ho; subst ho
        refine ⟨hs, ?_⟩
        simp only [Nat.add_zero, if_true, List.getD_cons_zero]
        rw [if_neg (by omega), d1]
        exact hk
      | succ k' =>
        have := d3 k' o' (by simpa using ho)
        dsimp only
        rw [if_neg (by omega), if_neg (by omega), if_neg (by omega)]
        rw [show i + (k' + 1) = i + 1 + k' by omega]
        simpa using this

section trace
variable {call : Call} {N lo : Nat} {ops : Array Oper} {D : Nat → DS} {K : Nat → Nat}

theorem ue7 (h k : ua8) (b : Nat) : hget (h ++ k) b = match hget h b with | some x => some x | none => hget k b := by
  induction h with
  | nil => rfl
  | cons p h ih =>
    obtain ⟨c, x⟩ := p
    rw [List.cons_append, ub2, ub2]
    split
    · rfl
    · exact ih

theorem uc3 {h k : ua8} {b : Nat} {blk : List CV} (hb : hget (h ++ k) b = some blk) : hget h b = some blk ∨ hget k b = some blk := by
  rw [ue7] at hb
  cases hh : hget h b with
  | none => rw [hh] at hb; exact .inr hb
  | some x => rw [hh] at hb; exact .inl hb

theorem uk4 {n : Nat} : ∀ {H : ua8} {b : Nat} {blk : List CV}, hget (fresh n H) b = some blk → n ≤ b ∧ hget H b = some blk
  | [], b, blk, h => by simp [fresh, uc2, ub2] at h
  | (c, x) :: H, b, blk, h => by
    simp only [fresh] at h
    split at h
    · next hn =>
      rw [ub2] at h ⊢
      split at h
      · next e => subst e; exact ⟨Nat.le_of_ble_eq_true hn, by simpa using h⟩
      · next e => rw [if_neg e]; exact uk4 h
    · simp [uc2, ub2] at h

theorem un8 {m : Nat} : ∀ {F : List (Nat × ua8)} {b : Nat} {blk : List CV}, hget (selF m F) b = some blk → ∃ j h, (j, h) ∈ F ∧ m.testBit j = true ∧ hget h b = some blk
  | [], b, blk, h => by simp [selF, uc2, ub2] at h
  | (j, f) :: F, b, blk, h => by
    simp only [selF] at h
    split at h
    · next hm =>
      rw [tb_eq] at hm
      rcases uc3 h with h | h
      · exact ⟨j, f, by simp, hm, h⟩
      · obtain ⟨j', h', a1, a2, a3⟩ := un8 h
        exact ⟨j', h', by simp [a1], a2, a3⟩
    · obtain ⟨j', h', a1, a2, a3⟩ := un8 h
      exact ⟨j', h', by simp [a1], a2, a3⟩

theorem uo2 : ∀ {F : List (Nat × ua8)} {b : Nat} {blk : List CV}, hget (allF F) b = some blk → ∃ j h, (j, h) ∈ F ∧ hget h b = some blk
  | [], b, blk, h => by simp [allF, uc2, ub2] at h
  | (j, f) :: F, b, blk, h => by
    simp only [allF] at h
    rcases uc3 h with h | h
    · exact ⟨j, f, by simp, h⟩
    · obtain ⟨j', h', a1, a2⟩ := uo2 h
      exact ⟨j', h', by simp [a1], a2⟩

theorem selF_miss {m b : Nat} {F : List (Nat × ua8)} (h : ∀ j f, (j, f) ∈ F → hget f b = none) : hget (selF m F) b = none := by
  cases hh : hget (selF m F) b with
  | none => rfl
  | some blk =>
    obtain ⟨j, f, h1, _, h3⟩ := un8 hh
    rw [h j f h1] at h3; simp at h3

/-- what operation j has made, where it is a quiet one -/
def piece (D : Nat → DS) (j : Nat) : ua8 := match (D (j + 1)).F with | (_, h) :: _ => h | [] => []

theorem uf3.n_le (h : uf3 P N lo ops D K) (hS : ue5 P call) {i : Nat} (hi : i < ops.size) : (D i).n ≤ (D (i + 1)).n := by
  obtain ⟨o, _, _, hk⟩ := h.step i hi
  generalize D (i + 1) = s at hk
  generalize K i = k at hk
  cases hk with
  | skip h1 => exact Nat.le_refl _
  | free x h1 h2 => exact Nat.le_refl _
  | watch x c blk H' h1 h2 h3 h4 => exact Nat.le_refl _
  | quiet x H' n' h1 h2 h3 => exact (h3.1).1
  | loud x H' n' h1 h2 h3 h4 => exact (h4.1).1

theorem uf3.n_mono (h : uf3 P N lo ops D K) (hS : ue5 P call) {i k : Nat} (hik : i ≤ k) (hk : k ≤ ops.size) : (D i).n ≤ (D k).n := by
  induction k with
  | zero => have : i = 0 := by omega
            subst this; exact Nat.le_refl _
  | succ k ih =>
    by_cases e : i = k + 1
    · subst e; exact Nat.le_refl _
    · exact Nat.le_trans (ih (by omega) (by omega)) (h.n_le hS (by omega))

theorem uf3.l_iff (h : uf3 P N lo ops D K) {i : Nat} (hi : i ≤ ops.size) (j : Nat) : j ∈ (D i).l ↔ j < i ∧ K j = 2 := by
  induction i with
  | zero => simp [h.l0]
  | succ i ih =>
    obtain ⟨o, _, _, hk⟩ := h.step i (by omega)
    have ih := ih (by omega)
    generalize D (i + 1) = s at hk ⊢
    generalize hki : K i = k at hk
    have hother : (j < i + 1 ∧ K j = 2) ↔ (j = i ∧ k = 2) ∨ (j < i ∧ K j = 2) := by
      constructor
      · rintro ⟨h1, h2⟩
        by_cases e : j = i
        · subst e; exact .inl ⟨rfl, by rw [← hki]; exact h2⟩
        · exact .inr ⟨by omega, h2⟩
      · rintro (⟨rfl, h2⟩ | ⟨h1, h2⟩)
        · exact ⟨by omega, by rw [hki]; exact h2⟩
        · exact ⟨by omega, h2⟩
    rw [hother]
    cases hk with
    | skip h1 => simp [ih]
    | free x h1 h2 => simp [ih]
    | watch x c blk H' h1 h2 h3 h4 => simp [ih]
    | quiet x H' n' h1 h2 h3 => simp [ih]
    | loud x H' n' h1 h2 h3 h4 => simp [ih]

theorem uf3.q_iff (h : uf3 P N lo ops D K) {i : Nat} (hi : i ≤ ops.size) (j : Nat) : j ∈ (D i).q ↔ j < i ∧ K j = 1 ∧ ∀ k, j < k → k < i → K k ≠ 2 := by
  induction i with
  | zero => simp [h.q0]
  | succ i ih =>
    obtain ⟨o, _, _, hk⟩ := h.step i (by omega)
    have ih := ih (by omega)
    generalize D (i + 1) = s at hk ⊢
    generalize hki : K i = k at hk
    have hne : K i ≠ 2 → ((∀ k, j < k → k < i + 1 → K k ≠ 2) ↔ (∀ k, j < k → k < i → K k ≠ 2)) := by
      intro hn
      constructor
      · exact fun g k a b => g k a (by omega)
      · intro g k a b
        by_cases e : k = i
        · subst e; exact hn
        · exact g k a (by omega)
    cases hk with
    | skip h1 =>
      show j ∈ (D i).q ↔ _
      rw [ih, hne (by omega)]
      constructor
      · rintro ⟨a, b, c⟩; exact ⟨by omega, b, c⟩
      · rintro ⟨a, b, c⟩
        have : j ≠ i := fun e => by subst e; omega
        exact ⟨by omega, b, c⟩
    | free x h1 h2 =>
      show j ∈ (D i).q ↔ _
      rw [ih, hne (by omega)]
      constructor
      · rintro ⟨a, b, c⟩; exact ⟨by omega, b, c⟩
      · rintro ⟨a, b, c⟩
        have : j ≠ i := fun e => by subst e; omega
        exact ⟨by omega, b, c⟩
    | watch x c blk H' h1 h2 h3 h4 =>
      show j ∈ (D i).q ↔ _
      rw [ih, hne (by omega)]
      constructor
      · rintro ⟨a, b, c⟩; exact ⟨by omega, b, c⟩
      · rintro ⟨a, b, c⟩
        have : j ≠ i := fun e => by subst e; omega
        exact ⟨by omega, b, c⟩
    | quiet x H' n' h1 h2 h3 =>
      simp only [List.mem_cons]
      rw [ih, hne (by omega)]
      constructor
      · rintro (rfl | ⟨a, b, c⟩)
        · exact ⟨by omega, hki, fun k a b => by omega⟩
        · exact ⟨by omega, b, c⟩
      · rintro ⟨a, b, c⟩
        by_cases e : j = i
        · exact .inl e
        · exact .inr ⟨by omega, b, c⟩
    | loud x H' n' h1 h2 h3 h4 =>
      simp only [List.not_mem_nil, false_iff]
      rintro ⟨a, b, c⟩
      by_cases e : j = i
      · subst e; omega
      · exact c i (by omega) (by omega) hki

theorem uf3.F_iff (h : uf3 P N lo ops D K) {i : Nat} (hi : i ≤ ops.size) (j : Nat) (f : ua8) : (j, f) ∈ (D i).F ↔ j ∈ (D i).q ∧ f = piece D j := by
  induction i with
  | zero => simp [h.q0, h.F0]
  | succ i ih =>
    obtain ⟨o, _, _, hk⟩ := h.step i (by omega)
    have ih := ih (by omega)
    have hq := h.q_iff (i := i) (by omega)
    have hp : piece D i = match (D (i + 1)).F with | (_, h) :: _ => h | [] => [] := rfl
    generalize D (i + 1) = s at hk ⊢ hp
    generalize hki : K i = k at hk
    cases hk with
    | skip h1 => exact ih
    | free x h1 h2 => exact ih
    | watch x c blk H' h1 h2 h3 h4 => exact ih
    | quiet x H' n' h1 h2 h3 =>
      simp only [List.mem_cons, Prod.mk.injEq, ih] at hp ⊢
      constructor
      · rintro (⟨rfl, rfl⟩ | ⟨a, b⟩)
        · exact ⟨.inl rfl, hp.symm⟩
        · exact ⟨.inr a, b⟩
      · rintro ⟨rfl | a, b⟩
        · exact .inl ⟨rfl, by rw [b, hp]⟩
        · exact .inr ⟨a, b⟩
    | loud x H' n' h1 h2 h3 h4 => simp

theorem uf3.B_same (h : uf3 P N lo ops D K) {p i : Nat} (hpi : p ≤ i) (hi : i ≤ ops.size) (hn : ∀ k, p ≤ k → k < i → K k ≠ 2) : (D i).B = (D p).B := by
  induction i with
  | zero => have : p = 0 := by omega
            subst this; rfl
  | succ i ih =>
    by_cases e : p = i + 1
    · subst e; rfl
    · have ih := ih (by omega) (by omega) (fun k a b => hn k a (by omega))
      obtain ⟨o, _, _, hk⟩ := h.step i (by omega)
      generalize D (i + 1) = s at hk ⊢
      generalize hki : K i = k at hk
      cases hk with
      | skip h1 => exact ih
      | free x h1 h2 => exact ih
      | watch x c blk H' h1 h2 h3 h4 => exact ih
      | quiet x H' n' h1 h2 h3 => exact ih
      | loud x H' n' h1 h2 h3 h4 => exact absurd hki (hn i (by omega) (by omega))

theorem keys_sel {m : Nat} {F : List (Nat × ua8)} {B : ua8} {n : Nat} (h : ∀ j f, (j, f) ∈ F → Keys f n) (hB : Keys B n) : Keys (selF m F ++ B) n := by
  intro b blk hb
  rcases uc3 hb with hb | hb
  · obtain ⟨j, f, h1, _, h3⟩ := un8 hb
    exact h j f h1 b blk h3
  · exact hB b blk hb

theorem um2 {F : List (Nat × ua8)} {B : ua8} {n : Nat} (h : ∀ j f, (j, f) ∈ F → Keys f n) (hB : Keys B n) : Keys (allF F ++ B) n := by
  intro b blk hb
  rcases uc3 hb with hb | hb
  · obtain ⟨j, f, h1, h3⟩ := uo2 hb
    exact h j f h1 b blk h3
  · exact hB b blk hb

theorem Keys.mono {H : ua8} {n n' : Nat} (h : Keys H n) (hn : n ≤ n') : Keys H n' := fun b blk hb => Nat.lt_of_lt_of_le (h b blk hb) hn

theorem uf3.keys (h : uf3 P N lo ops D K) (hS : ue5 P call) {i : Nat} (hi : i ≤ ops.size) : Keys (D i).B (D i).n ∧ ∀ j f, (j, f) ∈ (D i).F → Keys f (D i).n := by
  induction i with
  | zero => exact ⟨h.keys0, fun j f hf => by simp [h.F0] at hf⟩
  | succ i ih =>
    obtain ⟨hB, hF⟩ := ih (by omega)
    obtain ⟨o, _, _, hk⟩ := h.step i (by omega)
    generalize D (i + 1) = s at hk ⊢
    generalize hki : K i = k at hk
    cases hk with
    | skip h1 => exact ⟨hB, hF⟩
    | free x h1 h2 => exact ⟨hB, hF⟩
    | watch x c blk H' h1 h2 h3 h4 => exact ⟨hB, hF⟩
    | quiet x H' n' h1 h2 h3 =>
      have hkp := h3.1
      have hk' := hkp.2.2 (keys_sel hF hB)
      refine ⟨hB.mono hkp.1, fun j f hf => ?_⟩
      rcases List.mem_cons.1 hf with hf | hf
      · simp at hf
        obtain ⟨rfl, rfl⟩ := hf
        exact fun b blk hb => hk' b blk (uk4 hb).2
      · exact (hF j f hf).mono hkp.1
    | loud x H' n' h1 h2 h3 h4 =>
      have hkp := h4.1
      refine ⟨fun b blk hb => ?_, fun j f hf => by simp at hf⟩
      rcases uc3 hb with hb | hb
      · exact Nat.lt_of_lt_of_le (um2 hF hB b blk (keep_some hb).2) hkp.1
      · exact hkp.2.2 (fun b' blk' hb' => um2 hF hB b' blk' (un5 hb').2) b blk hb

/-- a piece's numbers are its operation's -/
theorem uf3.piece_keys (h : uf3 P N lo ops D K) (hS : ue5 P call) {j : Nat} (hj : j < ops.size) (hk1 : K j = 1) {b : Nat} {blk : List CV} (hb : hget (piece D j) b = some blk) : (D j).n ≤ b ∧ b < (D (j + 1)).n := by
  obtain ⟨hB, hF⟩ := h.keys hS (i := j) (by omega)
  obtain ⟨o, _, _, hk⟩ := h.step j hj
  unfold piece at hb
  generalize D (j + 1) = s at hk hb ⊢
  rw [hk1] at hk
  cases hk with
  | quiet x H' n' h1 h2 h3 =>
    have hkp := h3.1
    obtain ⟨a1, a2⟩ := uk4 hb
    exact ⟨a1, hkp.2.2 (keys_sel hF hB) b blk a2⟩

/-- what is looked at is as it was while no operation that waits for the look has run -/
theorem uf3.watched (h : uf3 P N lo ops D K) (hS : ue5 P call) {i : Nat} (hi : i < ops.size) (hk3 : K i = 3) : ∃ (o : Oper) (x : CV) (c : Nat) (blk : List CV) (H' : ua8), ops[i]? = some o ∧ cwanted ops (selT (D i).tm (looks ops o)) o.guard = some true ∧
    (∀ j ∈ (D i).l, (bm ops i).testBit j = true) ∧ hget (D i).B c = some blk ∧ OpOk P o (selT (D i).tm (looks ops o)) [(c, blk)] (D i).n (D i).n x H' ((D i).n) ∧
    D (i + 1) = { D i with tm := cput (D i).tm o.dst x, w := (i, c) :: (D i).w } ∧
    ∀ p, i < p → p ≤ ops.size → (∀ k, i < k → k < p → K k = 2 → (bm ops k).testBit i ≠ true) → (i, c) ∈ (D p).w ∧ hget (D p).B c = some blk := by
  obtain ⟨o, ho, _, hk⟩ := h.step i hi
  generalize hs : D (i + 1) = s at hk
  rw [hk3] at hk
  cases hk with
  | watch x c blk H' h1 h2 h3 h4 =>
  refine ⟨o, x, c, blk, H', ho, h1, h2, h3, h4, rfl, fun p hip hp hn => ?_⟩
  induction p with
  | zero => omega
  | succ p ih =>
    by_cases e : p = i
    · subst e; rw [hs]; exact ⟨by simp, h3⟩
    · obtain ⟨hw, hb⟩ := ih (by omega) (by omega) (fun k a b => hn k a (by omega))
      obtain ⟨o', _, _, hkp⟩ := h.step p (by omega)
      have hnp := hn p (by omega) (by omega)
      generalize D (p + 1) = s' at hkp ⊢
      generalize hkk : K p = k at hkp hnp
      cases hkp with
      | skip g1 => exact ⟨hw, hb⟩
      | free x g1 g2 => exact ⟨hw, hb⟩
      | quiet x H' n' g1 g2 g3 => exact ⟨hw, hb⟩
      | watch x c' blk' H' g1 g2 g3 g4 => exact ⟨List.mem_cons_of_mem _ hw, hb⟩
      | loud x H' n' g1 g2 g3 g4 =>
        refine ⟨hw, ?_⟩
        have hc := mem_atOnce hw (hnp rfl)
        have hnone : hget (allF (D p).F) c = none := by
          cases hh : hget (allF (D p).F) c with
          | none => rfl
          | some blk' =>
            exfalso
            obtain ⟨j, f, a1, a3⟩ := uo2 hh
            obtain ⟨hq, rfl⟩ := (h.F_iff (by omega) j f).1 a1
            obtain ⟨q1, q2, q3⟩ := (h.q_iff (by omega) j).1 hq
            have hpk := h.piece_keys hS (by omega) q2 a3
            have hsame := h.B_same (p := j) (i := p) (by omega) (by omega) (fun k a b => by
              by_cases e : k = j
              · subst e; omega
              · exact q3 k (by omega) b)
            rw [hsame] at hb
            have := (h.keys hS (i := j) (by omega)).1 c blk hb
            omega
        show hget (keepAll _ _ ++ _) c = _
        rw [ue7, uo3 hc, ue7, hnone]
        simp only [hb]

theorem uf3.tm_same (h : uf3 P N lo ops D K) {t i k : Nat} (hik : i ≤ k) (hk : k ≤ ops.size) (hn : ∀ j o, i ≤ j → j < k → ops[j]? = some o → o.dst ≠ some t) : tget (D k).tm t = tget (D i).tm t := by
  induction k with
  | zero => have : i = 0 := by omega
            subst this; rfl
  | succ k ih =>
    by_cases e : i = k + 1
    · subst e; rfl
    · rw [← ih (by omega) (by omega) (fun j o a b => hn j o a (by omega))]
      obtain ⟨o, ho, _, hkk⟩ := h.step k (by omega)
      have hd := hn k o (by omega) (by omega) ho
      have hput : ∀ x, tget (cput (D k).tm o.dst x) t = tget (D k).tm t := by
        intro x
        cases hdd : o.dst with
        | none => rfl
        | some d =>
          have : d ≠ t := fun e => hd (by rw [hdd, e])
          simp [cput, uf1, uc7, this]
      generalize D (k + 1) = s at hkk ⊢
      generalize K k = kk at hkk
      cases hkk with
      | skip h1 => exact hput _
      | free x h1 h2 => exact hput _
      | watch x c blk H' h1 h2 h3 h4 => exact hput _
      | quiet x H' n' h1 h2 h3 => exact hput _
      | loud x H' n' h1 h2 h3 h4 => exact hput _

end trace
end
end Go.Cn
end
noncomputable section
namespace Go.Cn

section
variable {P : Program} {call : Call} {N lo : Nat} {ops : Array Oper} {D : Nat → DS} {K : Nat → Nat}

def Lst (l : Array Bool) (j : Nat) : Prop := l.getD j false = true

theorem uf4 {l : Array Bool} {i j : Nat} (hi : i < l.size) : Lst (l.setIfInBounds i true) j ↔ j = i ∨ Lst l j := by
  unfold Lst
  simp only [Array.getD_eq_getD_getElem?]
  by_cases e : i = j
  · subst e; simp [hi]
  · rw [Array.getElem?_setIfInBounds_ne e]
    constructor
    · exact .inr
    · rintro (rfl | h)
      · exact absurd rfl e
      · exact h

theorem lst_lt {l : Array Bool} {j : Nat} (h : Lst l j) : j < l.size := by
  rcases Nat.lt_or_ge j l.size with h' | h'
  · exact h'
  · unfold Lst at h
    rw [Array.getD_eq_getD_getElem?, Array.getElem?_eq_none h'] at h
    simp at h

theorem not_lst {l : Array Bool} {j : Nat} (hj : j < l.size) : l.getD j true = true ↔ Lst l j := by
  unfold Lst
  simp [Array.getD_eq_getD_getElem?, hj]

theorem tmpOk_spec (h : tmpOk ops.toList ops (bits ops) = true) {i d : Nat} {oi od : Oper} {t : Nat} (hi : ops[i]? = some oi) (hd : ops[d]? = some od) (hne : i ≠ d) (ht : t ∈ oi.dst.toList ++ looks ops oi) (hdt : od.dst = some t) :
    (bm ops (max i d)).testBit (min i d) = true := by
  obtain ⟨_, _, g3, g4⟩ := tmpGo_spec ops.toList _ 0 [] [] h
  simp only [Nat.zero_add] at g3 g4
  rcases Nat.lt_or_ge i d with hlt | hge
  · rw [Nat.max_eq_right (by omega), Nat.min_eq_left (by omega)]
    exact g4 i d oi od t hlt (by simpa using hi) (by simpa using hd) hdt ht
  · rw [Nat.max_eq_left (by omega), Nat.min_eq_right (by omega)]
    exact g3 d i od oi t (by omega) (by simpa using hd) (by simpa using hi) hdt ht

theorem edgesOk_spec (h : edgesOk ops = true) {i : Nat} {o : Oper} (hi : ops[i]? = some o) {e : Edge} (he : e ∈ o.after.toList) (hb : Region.binds .any e = true) : e.on < i := by
  have := edgesGo_spec ops.toList 0 h i o (by simpa using hi) e he hb
  omega

theorem ready_spec {l : Array Bool} (hl : l.size = ops.size) {i : Nat} : i ∈ Region.ready .any ops l ↔ i < ops.size ∧ ¬ Lst l i ∧ ∃ o, ops[i]? = some o ∧ ∀ e ∈ o.after.toList, Region.binds .any e = true → Lst l e.on := by
  unfold Region.ready
  rw [List.mem_filter]
  simp only [List.mem_range, Bool.and_eq_true, Bool.not_eq_true']
  constructor
  · rintro ⟨h1, h2, h3⟩
    refine ⟨h1, fun h => ?_, ?_⟩
    · rw [(not_lst (by omega)).2 h] at h2; simp at h2
    · obtain ⟨o, ho⟩ : ∃ o, ops[i]? = some o := ⟨_, Array.getElem?_eq_getElem h1⟩
      refine ⟨o, ho, fun e he hb => ?_⟩
      rw [ho] at h3
      simp only [Option.map_some, Option.getD_some] at h3
      rw [Array.all_eq_true_iff_forall_mem] at h3
      have := h3 e (by simpa using he)
      simpa [hb, Lst] using this
  · rintro ⟨h1, h2, o, ho, h3⟩
    refine ⟨h1, ?_, ?_⟩
    · cases hg : l.getD i true with
      | false => rfl
      | true => exact absurd ((not_lst (by omega)).1 hg) h2
    · rw [ho]
      simp only [Option.map_some, Option.getD_some]
      rw [Array.all_eq_true_iff_forall_mem]
      intro e he
      cases hb : Region.binds .any e with
      | false => simp
      | true => simpa [Lst] using h3 e (by simpa using he) hb

/-- what does not look at the memory -/
structure InvA (N : Nat) (ops : Array Oper) (D : Nat → DS) (E0 : Env) (l : Array Bool) (E : Env) (a : Act) : Prop where
  lsz : l.size = ops.size
  closed : ∀ i, Lst l i → ∀ j, (bm ops i).testBit j = true → Lst l j
  ex : Ex E0 E
  ub : ∀ k, E.U k → E0.U k ∨ ∃ i, Lst l i ∧ (D i).n ≤ k ∧ k < (D (i + 1)).n
  tmps : ∀ t k, k ≤ ops.size → (∀ j o, j < k → ops[j]? = some o → o.dst = some t → Lst l j) → (∀ j o, Lst l j → ops[j]? = some o → o.dst = some t → j < k) →
    ∀ x, tget (D k).tm t = some x → VR E x (a.tmps.getD t undef)
  size : a.tmps.size = N
  defers : a.defers = []

/-- what does -/
structure InvH (ops : Array Oper) (D : Nat → DS) (K : Nat → Nat) (l : Array Bool) (E : Env) (p : Nat) : Prop where
  p_le : p ≤ ops.size
  louds : ∀ j, j < ops.size → K j = 2 → (Lst l j ↔ j < p)
  pl : p = 0 ∨ K (p - 1) = 2
  quiets : ∀ j, j < p → K j = 1 → Lst l j
  base : Base E
  goodB : ∀ b blk, hget (D p).B b = some blk → Good E b blk
  goodF : ∀ j, p ≤ j → Lst l j → K j = 1 → ∀ b blk, hget (piece D j) b = some blk → Good E b blk

theorem preds_in {E0 E : Env} {l : Array Bool} {a : Act} (hA : InvA N ops D E0 l E a) {i : Nat} {o : Oper} (ho : ops[i]? = some o) (hp : ∀ e ∈ o.after.toList, Region.binds .any e = true → Lst l e.on) {j : Nat}
    (hj : (bm ops i).testBit j = true) : Lst l j := by
  obtain ⟨e, he, hb, h | ⟨_, h⟩⟩ := before_bits ho hj
  · rw [h]; exact hp e he hb
  · exact hA.closed _ (hp e he hb) j h

/-- the temporaries that an operation looks at -/
theorem looks_tr {E0 E : Env} {l : Array Bool} {a : Act} (hT : uf3 P N lo ops D K) (hok : tmpOk ops.toList ops (bits ops) = true) (hA : InvA N ops D E0 l E a) {i : Nat} {o : Oper} (hi : i < ops.size) (hn : ¬ Lst l i) (ho : ops[i]? = some o)
    (hp : ∀ j, (bm ops i).testBit j = true → Lst l j) : TR E (selT (D i).tm (looks ops o)) a := by
  have key : ∀ t ∈ looks ops o, ∀ x, tget (D i).tm t = some x → VR E x (a.tmps.getD t undef) := by
    intro t ht x hx
    refine hA.tmps t i (by omega) (fun j oj hj hoj hd => ?_) (fun j oj hj hoj hd => ?_) x hx
    · have := tmpOk_spec hok ho hoj (by omega) (by simp [ht]) hd
      rw [Nat.max_eq_left (by omega), Nat.min_eq_right (by omega)] at this
      exact hp j this
    · have hne : i ≠ j := fun e => hn (e ▸ hj)
      rcases Nat.lt_or_ge j i with h | h
      · exact h
      · have := tmpOk_spec hok ho hoj hne (by simp [ht]) hd
        rw [Nat.max_eq_right (by omega), Nat.min_eq_left (by omega)] at this
        exact absurd (hA.closed j hj i this) hn
  have gen : ∀ (ts : List Nat), (∀ t ∈ ts, ∀ x, tget (D i).tm t = some x → VR E x (a.tmps.getD t undef)) → TR E (selT (D i).tm ts) a := by
    intro ts
    induction ts with
    | nil => intro _ t x hx; simp [selT, uf1, uc7] at hx
    | cons t0 ts ih =>
      intro h t x hx
      simp only [selT] at hx
      split at hx
      · next y hy =>
        simp only [uf1, uc7] at hx
        by_cases e : t0 = t
        · subst e; simp at hx; subst hx; exact h t0 (by simp) y hy
        · simp [e] at hx; exact ih (fun t ht => h t (by simp [ht])) t x hx
      · exact ih (fun t ht => h t (by simp [ht])) t x hx
  exact gen _ key

theorem uk5 {E0 E E2 : Env} {l : Array Bool} {a : Act} (hT : uf3 P N lo ops D K) (hok : tmpOk ops.toList ops (bits ops) = true) (hA : InvA N ops D E0 l E a) {i : Nat} {o : Oper} (hi : i < ops.size) (hn : ¬ Lst l i)
    (ho : ops[i]? = some o) (hp : ∀ j, (bm ops i).testBit j = true → Lst l j) (hex : Ex E E2) (hub : UB E E2 (D i).n (D (i + 1)).n) (hsm : isSmall N o.dst = true) {x : CV} {v : Value} (htm : (D (i + 1)).tm = cput (D i).tm o.dst x) (hv : VR E2 x v) :
    InvA N ops D E0 (l.setIfInBounds i true) E2 (a.put o.dst v) where
  lsz := by simpa using hA.lsz
  closed k hk j hj := by
    have hil : i < l.size := by rw [hA.lsz]; exact hi
    rw [uf4 hil] at hk ⊢
    rcases hk with rfl | hk
    · exact .inr (hp j hj)
    · exact .inr (hA.closed k hk j hj)
  ex := hA.ex.trans hex
  ub k hk := by
    have hil : i < l.size := by rw [hA.lsz]; exact hi
    rcases hub k hk with h | h
    · rcases hA.ub k h with h | ⟨j, hj, h⟩
      · exact .inl h
      · exact .inr ⟨j, (uf4 hil).2 (.inr hj), h⟩
    · exact .inr ⟨i, (uf4 hil).2 (.inl rfl), h⟩
  tmps t k hk h1 h2 y hy := by
    have hil : i < l.size := by rw [hA.lsz]; exact hi
    by_cases hd : o.dst = some t
    · have hik : i < k := h2 i o ((uf4 hil).2 (.inl rfl)) ho hd
      have hsame : tget (D k).tm t = tget (D (i + 1)).tm t := by
        refine hT.tm_same (by omega) hk fun j oj hj1 hj2 hoj hdj => ?_
        have hjl := (uf4 hil).1 (h1 j oj hj2 hoj hdj)
        have hjl : Lst l j := hjl.resolve_left (by omega)
        have := tmpOk_spec hok ho hoj (by omega) (by simp [hd]) hdj
        rw [Nat.max_eq_right (by omega), Nat.min_eq_left (by omega)] at this
        exact hn (hA.closed j hjl i this)
      rw [hsame, htm, hd] at hy
      simp [cput, uf1, uc7] at hy
      subst hy
      have hlt : t < a.tmps.size := by
        rw [hA.size]
        simpa [isSmall, hd, Nat.blt_eq] using hsm
      rw [hd, put_getD hlt, if_pos rfl]
      exact hv
    · have hget : (a.put o.dst v).tmps.getD t undef = a.tmps.getD t undef := by
        cases hdd : o.dst with
        | none => rfl
        | some d =>
          have hne : d ≠ t := fun e => hd (by rw [hdd, e])
          have hlt : d < a.tmps.size := by
            rw [hA.size]
            simpa [isSmall, hdd, Nat.blt_eq] using hsm
          rw [put_getD hlt, if_neg hne]
      rw [hget]
      refine (hA.tmps t k hk (fun j oj hj hoj hdj => ?_) (fun j oj hj hoj hdj => h2 j oj ((uf4 hil).2 (.inr hj)) hoj hdj) y hy).mono hex
      rcases (uf4 hil).1 (h1 j oj hj hoj hdj) with rfl | h
      · rw [ho] at hoj; cases hoj; exact absurd hdj hd
      · exact h
  size := by rw [put_size]; exact hA.size
  defers := by rw [uk0]; exact hA.defers

/-- whatever is quiet leaves the phase as it is -/
theorem uo9 {E E2 : Env} {l : Array Bool} {p : Nat} (hH : InvH ops D K l E p) {i : Nat} (hil : i < l.size) (hk2 : K i ≠ 2) (hb : Base E2) (hgB : ∀ b blk, hget (D p).B b = some blk → Good E2 b blk)
    (hgF : ∀ j, p ≤ j → (j = i ∨ Lst l j) → K j = 1 → ∀ b blk, hget (piece D j) b = some blk → Good E2 b blk) : InvH ops D K (l.setIfInBounds i true) E2 p where
  p_le := hH.p_le
  louds j hj hk := by
    rw [uf4 hil, ← hH.louds j hj hk]
    constructor
    · rintro (rfl | h)
      · exact absurd hk hk2
      · exact h
    · exact .inr
  pl := hH.pl
  quiets j hj hk := (uf4 hil).2 (.inr (hH.quiets j hj hk))
  base := hb
  goodB := hgB
  goodF j hj hl hk := hgF j hj ((uf4 hil).1 hl) hk

theorem count_lt {p q : Nat → Bool} : ∀ (l : List Nat), (∀ x, q x = true → p x = true) → (∃ x ∈ l, p x = true ∧ q x = false) → l.countP q < l.countP p
  | [], _, h => by obtain ⟨x, hx, _⟩ := h; simp at hx
  | y :: l, hpq, h => by
    obtain ⟨x, hx, hp, hq⟩ := h
    have hle : l.countP q ≤ l.countP p := List.countP_mono_left fun x _ h => hpq x h
    simp only [List.countP_cons]
    rcases List.mem_cons.1 hx with rfl | hx
    · rw [hp, hq]; simp; omega
    · have := count_lt l hpq ⟨x, hx, hp, hq⟩
      cases hqy : q y with
      | false => cases hpy : p y <;> simp <;> omega
      | true => rw [hpq y hqy]; simp; omega

end
end Go.Cn
end
noncomputable section
namespace Go.Cn

section
variable {P : Program} {call : Call} {N lo : Nat} {ops : Array Oper} {D : Nat → DS} {K : Nat → Nat}

theorem free_of {E0 E : Env} {l : Array Bool} {a : Act} (hT : uf3 P N lo ops D K) (hS : ue5 P call) (hfr : Fr E0 (D 0).n (D ops.size).n) (hA : InvA N ops D E0 l E a) {i : Nat} (hi : i < ops.size) (hn : ¬ Lst l i) : Fr E (D i).n (D (i + 1)).n := by
  intro k h1 h2 hk
  rcases hA.ub k hk with h | ⟨j, hj, h3, h4⟩
  · have a1 := hT.n_mono hS (i := 0) (k := i) (by omega) (by omega)
    have a2 := hT.n_mono hS (i := i + 1) (k := ops.size) (by omega) (by omega)
    exact hfr k (by omega) (by omega) h
  · have hjl : j < ops.size := by have := lst_lt hj; rw [hA.lsz] at this; exact this
    have hne : j ≠ i := fun e => hn (e ▸ hj)
    rcases Nat.lt_or_ge j i with h | h
    · have := hT.n_mono hS (i := j + 1) (k := i) (by omega) (by omega); omega
    · have := hT.n_mono hS (i := i + 1) (k := j) (by omega) (by omega); omega

/-- the heap that a quiet operation sees -/
theorem quiet_seen {E0 E : Env} {l : Array Bool} {a : Act} {p : Nat} (hT : uf3 P N lo ops D K) (hA : InvA N ops D E0 l E a) (hH : InvH ops D K l E p) {i : Nat} (hi : i < ops.size) (hn : ¬ Lst l i)
    (hp : ∀ j, (bm ops i).testBit j = true → Lst l j) (hl : ∀ j ∈ (D i).l, (bm ops i).testBit j = true) (hk : K i = 1 ∨ K i = 2) : p ≤ i ∧ (D i).B = (D p).B ∧ ∀ j f, (j, f) ∈ (D i).F → p ≤ j ∧ j < i ∧ K j = 1 ∧ f = piece D j := by
  have hpi : p ≤ i := by
    rcases Nat.lt_or_ge i p with h | h
    · rcases hk with hk | hk
      · exact absurd (hH.quiets i h hk) hn
      · exact absurd ((hH.louds i hi hk).2 h) hn
    · exact h
  have hno : ∀ k, p ≤ k → k < i → K k ≠ 2 := by
    intro k h1 h2 hk2
    have hmem : k ∈ (D i).l := (hT.l_iff (by omega) k).2 ⟨h2, hk2⟩
    have := (hH.louds k (by omega) hk2).1 (hp k (hl k hmem))
    omega
  refine ⟨hpi, hT.B_same hpi (by omega) hno, fun j f hf => ?_⟩
  obtain ⟨hq, rfl⟩ := (hT.F_iff (by omega) j f).1 hf
  obtain ⟨h1, h2, h3⟩ := (hT.q_iff (by omega) j).1 hq
  refine ⟨?_, h1, h2, rfl⟩
  rcases Nat.lt_or_ge j p with h | h
  · exfalso
    rcases hH.pl with h0 | h0
    · omega
    · by_cases e : j = p - 1
      · subst e; omega
      · exact h3 (p - 1) (by omega) (by omega) h0
  · exact h

theorem inv_step (hS : ue5 P call) (hT : uf3 P N lo ops D K) (hok : tmpOk ops.toList ops (bits ops) = true) {E0 E : Env} {l : Array Bool} {a : Act} {p : Nat} (hfr : Fr E0 (D 0).n (D ops.size).n)
    (hA : InvA N ops D E0 l E a) (hH : InvH ops D K l E p) {i : Nat} {o : Oper} (hi : i < ops.size) (hn : ¬ Lst l i) (ho : ops[i]? = some o) (hpr : ∀ e ∈ o.after.toList, Region.binds .any e = true → Lst l e.on)
    {Q : Exit → Act → World → Prop} (hL : LetsGo Q) {next : Act → World → Prop} (hK : ∀ E2 a2 p2, InvA N ops D E0 (l.setIfInBounds i true) E2 a2 → InvH ops D K (l.setIfInBounds i true) E2 p2 → next a2 E2.w) :
    wpOp P ops Q i next a E.w := by
  have hil : i < l.size := by rw [hA.lsz]; exact hi
  have hp : ∀ j, (bm ops i).testBit j = true → Lst l j := fun j hj => preds_in hA ho hpr hj
  obtain ⟨o', ho', hsm, hk⟩ := hT.step i hi
  obtain rfl : o' = o := by rw [ho] at ho'; exact (Option.some.inj ho').symm
  have hTR := looks_tr hT hok hA hi hn ho hp
  have hfrI := free_of hT hS hfr hA hi hn
  have hkB := (hT.keys hS (i := i) (by omega)).1
  have hkF := (hT.keys hS (i := i) (by omega)).2
  simp only [wpOp, ho]
  have hnle := hT.n_le hS hi
  generalize hs : D (i + 1) = s at hk
  generalize hki : K i = k at hk
  cases hk with
  | skip h1 =>
    rw [if_neg (by rw [ud2 hTR h1]; simp)]
    exact hK E _ p (uk5 hT hok hA hi hn ho hp (.refl E) .refl hsm (x := .tup []) (by rw [hs]) vr_undef)
      (uo9 hH hil (by omega) hH.base hH.goodB (fun j hj hl hk => hH.goodF j hj (hl.resolve_left (fun e => by subst e; omega)) hk))
  | free x h1 h2 =>
    rw [if_pos (ud2 hTR h1)]
    refine .inl (h2.2 (E.see fun _ => False) _ (see_hr hH.base (fun b blk hb => by simp [uc2, ub2] at hb)) (fun b blk hb => by simp [uc2, ub2] at hb) (fun t y hy => (hTR t y hy).mono see_ex) (fun k a1 a2 => by omega) _ _ hL ?_)
    intro E' v hex hh hub hv
    have hwx := whole_ex hex
    have hb2 := un7 hH.base hh.base hex
    refine hK (E.whole E' fun _ => False) _ p (uk5 hT hok hA hi hn ho hp hwx ?_ hsm (x := x) (by rw [hs]) (whole_vr hv))
      (uo9 hH hil (by omega) hb2 (fun b blk hb => ue2 hH.base hex (hH.goodB b blk hb) (by simp)) (fun j hj hl hk b blk hb => ue2 hH.base hex (hH.goodF j hj (hl.resolve_left (fun e => by subst e; omega)) hk b blk hb) (by simp)))
    intro k hk
    rcases hub k hk with h | h
    · exact .inl h
    · omega
  | quiet x H' n' h1 h2 h3 =>
    rw [if_pos (ud2 hTR h1)]
    obtain ⟨hpi, hBB, hFF⟩ := quiet_seen hT hA hH hi hn hp h2 (.inl hki)
    have hkeys := keys_sel (m := bm ops i) hkF hkB
    have hnn : (D (i + 1)).n = n' := by rw [hs]
    have hsee : ∀ b blk, hget (selF (bm ops i) (D i).F ++ (D i).B) b = some blk → Good E b blk := by
      intro b blk hb
      rcases uc3 hb with hb | hb
      · obtain ⟨j, f, a1, a2, a3⟩ := un8 hb
        obtain ⟨b1, b2, b3, rfl⟩ := hFF j f a1
        exact hH.goodF j b1 (hp j a2) b3 b blk a3
      · rw [hBB] at hb; exact hH.goodB b blk hb
    let Dp : Nat → Prop := fun b => (hget (selF (bm ops i) (D i).F ++ (D i).B) b).isSome = true
    refine .inl (h3.2 (E.see Dp) _ (see_hr hH.base (fun b blk hb => ⟨by show (hget _ b).isSome = true; rw [hb]; rfl, hsee b blk hb⟩)) hkeys (fun t y hy => (hTR t y hy).mono see_ex) (by rw [← hnn]; exact hfrI) _ _ hL ?_)
    intro E' v hex hh hub hv
    have hwx := whole_ex hex
    have hb2 := un7 hH.base hh.base hex
    have hkp := h3.1
    -- what was seen is as it was
    have keep : ∀ b blk, hget (selF (bm ops i) (D i).F ++ (D i).B) b = some blk → Good (E.whole E' Dp) b blk := by
      intro b blk hb
      have hlt := hkeys b blk hb
      exact uf9 (hh.good (by rw [hkp.2.1 (Nat.le_refl _) b hlt]; exact hb))
    have uniq : ∀ j f b blk, (j, f) ∈ (D i).F → hget f b = some blk → (D j).n ≤ b ∧ b < (D (j + 1)).n := by
      intro j f b blk hf hb
      obtain ⟨b1, b2, b3, rfl⟩ := hFF j f hf
      exact hT.piece_keys hS (by omega) b3 hb
    refine hK (E.whole E' Dp) _ p (uk5 hT hok hA hi hn ho hp hwx (by rw [hnn]; exact hub) hsm (x := x) (by rw [hs]) (whole_vr hv))
      (uo9 hH hil (by omega) hb2 (fun b blk hb => ?_) (fun j hj hl hk b blk hb => ?_))
    · refine keep b blk ?_
      have hkp0 := (hT.keys hS (i := p) hH.p_le).1 b blk hb
      rw [ue7, selF_miss, hBB]
      · exact hb
      · intro j f hf
        cases hfb : hget f b with
        | none => rfl
        | some blk' =>
          obtain ⟨b1, b2, b3, rfl⟩ := hFF j f hf
          have := (uniq j _ b blk' hf hfb).1
          have := hT.n_mono hS (i := p) (k := j) b1 (by omega)
          omega
    · by_cases hji : j = i
      · subst hji
        have hpc : piece D j = fresh (D j).n H' := by unfold piece; rw [hs]
        rw [hpc] at hb
        exact uf9 (hh.good (uk4 hb).2)
      · have hjl : Lst l j := hl.resolve_left hji
        have hjm : j < ops.size := by have := lst_lt hjl; rw [hA.lsz] at this; exact this
        by_cases hd : Dp b
        · -- it is one of the seen pieces
          have hbk := hT.piece_keys hS hjm hk hb
          obtain ⟨blk', hblk'⟩ := Option.isSome_iff_exists.1 hd
          have : blk' = blk := by
            rcases uc3 hblk' with h | h
            · obtain ⟨j', f', a1, a2, a3⟩ := un8 h
              obtain ⟨b1, b2, b3, rfl⟩ := hFF j' f' a1
              have hk' := hT.piece_keys hS (by omega) b3 a3
              have hjj : j' = j := by
                rcases Nat.lt_trichotomy j' j with g | g | g
                · have := hT.n_mono hS (i := j' + 1) (k := j) (by omega) (by omega); omega
                · exact g
                · have := hT.n_mono hS (i := j + 1) (k := j') (by omega) (by omega); omega
              subst hjj
              rw [hb] at a3; exact (Option.some.inj a3).symm
            · exfalso
              rw [hBB] at h
              have := (hT.keys hS (i := p) hH.p_le).1 b blk' h
              have := hT.n_mono hS (i := p) (k := j) hj (by omega)
              omega
          rw [this] at hblk'
          exact keep b blk hblk'
        · exact ue2 hH.base hex (hH.goodF j hj hjl hk b blk hb) hd
  | loud x H' n' h1 h2 h3 h4 =>
    rw [if_pos (ud2 hTR h1)]
    obtain ⟨hpi, hBB, hFF⟩ := quiet_seen hT hA hH hi hn hp h2 (.inr hki)
    have hkeys0 := um2 hkF hkB
    have hkeys : Keys (hideAll (atOnce (bm ops i) (D i).w) (allF (D i).F ++ (D i).B)) (D i).n := fun b blk hb => hkeys0 b blk (un5 hb).2
    have hnn : (D (i + 1)).n = n' := by rw [hs]
    have hsee : ∀ b blk, hget (allF (D i).F ++ (D i).B) b = some blk → Good E b blk := by
      intro b blk hb
      rcases uc3 hb with hb | hb
      · obtain ⟨j, f, a1, a3⟩ := uo2 hb
        obtain ⟨b1, b2, b3, b4⟩ := hFF j f a1
        have hjq := ((hT.F_iff (by omega) j f).1 a1).1
        rw [b4] at a3
        exact hH.goodF j b1 (hp j (h3 j hjq)) b3 b blk a3
      · rw [hBB] at hb; exact hH.goodB b blk hb
    let Dp : Nat → Prop := fun b => b ∉ atOnce (bm ops i) (D i).w
    refine .inl (h4.2 (E.see Dp) _ (see_hr hH.base (fun b blk hb => ⟨(un5 hb).1, hsee b blk (un5 hb).2⟩)) hkeys (fun t y hy => (hTR t y hy).mono see_ex) (by rw [← hnn]; exact hfrI) _ _ hL ?_)
    intro E' v hex hh hub hv
    have hwx := whole_ex hex
    have hb2 := un7 hH.base hh.base hex
    have hA' := uk5 hT hok hA hi hn ho hp hwx (by rw [hnn]; exact hub) hsm (x := x) (by rw [hs]) (whole_vr hv)
    refine hK (E.whole E' Dp) _ (i + 1) hA' ⟨by omega, fun j hj hk => ?_, .inr (by simpa using hki), fun j hj hk => ?_, hb2, fun b blk hb => ?_, fun j hj hl hk b blk hb => ?_⟩
    · rw [uf4 hil]
      constructor
      · rintro (rfl | h)
        · omega
        · have := (hH.louds j hj hk).1 h; omega
      · intro h
        by_cases e : j = i
        · exact .inl e
        · exact .inr (hp j (h2 j ((hT.l_iff (by omega) j).2 ⟨by omega, hk⟩)))
    · rw [uf4 hil]
      by_cases e : j = i
      · exact .inl e
      · refine .inr ?_
        rcases Nat.lt_or_ge j p with h | h
        · exact hH.quiets j h hk
        · refine hp j (h3 j ((hT.q_iff (by omega) j).2 ⟨by omega, hk, fun k a1 a2 hk2 => ?_⟩))
          have := (hH.louds k (by omega) hk2).1 (hp k (h2 k ((hT.l_iff (by omega) k).2 ⟨a2, hk2⟩)))
          omega
    · rw [hs] at hb
      rcases uc3 hb with hb | hb
      · obtain ⟨k1, k2⟩ := keep_some hb
        exact ue2 hH.base hex (hsee b blk k2) (fun hd => hd k1)
      · exact uf9 (hh.good hb)
    · exfalso
      have hjl : Lst l j := ((uf4 hil).1 hl).resolve_left (by omega)
      have hjm : j < ops.size := by have := lst_lt hjl; rw [hA.lsz] at this; exact this
      -- j is behind the loud one, so that one stood in the list
      obtain ⟨oj, hoj, _, hkj⟩ := hT.step j hjm
      have hmem : i ∈ (D j).l := (hT.l_iff (by omega) i).2 ⟨by omega, hki⟩
      generalize D (j + 1) = sj at hkj
      rw [hk] at hkj
      cases hkj with
      | quiet x' H'' n'' g1 g2 g3 => exact hn (hA.closed j hjl i (g2 i hmem))
  | watch x c blk H' h1 h2 h3 h4 =>
    obtain ⟨o2, x2, c2, blk2, H2, e1, e2, e3, e4, e5, e6, hW⟩ := hT.watched hS hi hki
    have hBp : hget (D p).B c = some blk := by
      have hc2 : c2 = c ∧ blk2 = blk := by
        have hw : (D (i + 1)).w = (i, c2) :: (D i).w := by rw [e6]
        have hw' : (D (i + 1)).w = (i, c) :: (D i).w := by rw [hs]
        rw [hw] at hw'
        simp at hw'
        subst hw'
        rw [h3] at e4
        exact ⟨rfl, (Option.some.inj e4).symm⟩
      obtain ⟨rfl, rfl⟩ := hc2
      rcases Nat.lt_or_ge i p with hip | hip
      · refine (hW p hip hH.p_le fun k k1 k2 k3 hbit => ?_).2
        exact hn (hA.closed k ((hH.louds k (by have := hH.p_le; omega) k3).2 k2) i hbit)
      · rw [← hT.B_same hip (by omega) (fun k k1 k2 k3 => ?_)]
        · exact h3
        · have hmem : k ∈ (D i).l := (hT.l_iff (by omega) k).2 ⟨k2, k3⟩
          have := (hH.louds k (by omega) k3).1 (hp k (h2 k hmem))
          omega
    rw [if_pos (ud2 hTR h1)]
    let Dp : Nat → Prop := fun b => b = c
    have hone : ∀ b blk', hget [(c, blk)] b = some blk' → b = c ∧ blk' = blk := by
      intro b blk' hb
      rw [ub2] at hb
      split at hb
      · next e => exact ⟨e.symm, (Option.some.inj hb).symm⟩
      · simp [uc2, ub2] at hb
    have hcn : c < (D i).n := hkB c blk h3
    have hself : hget [(c, blk)] c = some blk := by rw [ub2, if_pos rfl]
    refine .inl (h4.2 (E.see Dp) _ (see_hr hH.base (fun b blk' hb => ?_)) (fun b blk' hb => ?_) (fun t y hy => (hTR t y hy).mono see_ex) (fun k a1 a2 => by omega) _ _ hL ?_)
    · obtain ⟨rfl, rfl⟩ := hone b blk' hb
      exact ⟨rfl, hH.goodB _ _ hBp⟩
    · obtain ⟨rfl, rfl⟩ := hone b blk' hb
      exact hcn
    intro E' v hex hh hub hv
    have hwx := whole_ex hex
    have hb2 := un7 hH.base hh.base hex
    have hkp := h4.1
    have keep : Good (E.whole E' Dp) c blk := uf9 (hh.good (by rw [hkp.2.1 (Nat.le_refl _) c hcn]; exact hself))
    refine hK (E.whole E' Dp) _ p (uk5 hT hok hA hi hn ho hp hwx ?_ hsm (x := x) (by rw [hs]) (whole_vr hv))
      (uo9 hH hil (by omega) hb2 (fun b blk' hb => ?_) (fun j hj hl hk b blk' hb => ?_))
    · intro k hk
      rcases hub k hk with h | h
      · exact .inl h
      · omega
    · by_cases e : b = c
      · subst e; rw [hBp] at hb; rw [← Option.some.inj hb]; exact keep
      · exact ue2 hH.base hex (hH.goodB b blk' hb) e
    · have hjl := hl.resolve_left (fun e => by subst e; omega)
      have hjm : j < ops.size := by have := lst_lt hjl; rw [hA.lsz] at this; exact this
      refine ue2 hH.base hex (hH.goodF j hj hjl hk b blk' hb) (fun e => ?_)
      have e : b = c := e
      have h5 := (hT.piece_keys hS hjm hk hb).1
      have h6 := (hT.keys hS (i := p) hH.p_le).1 c blk hBp
      have h7 := hT.n_mono hS (i := p) (k := j) hj (by omega)
      omega

theorem wpAny_of (hS : ue5 P call) (hT : uf3 P N lo ops D K) (hok : tmpOk ops.toList ops (bits ops) = true) (hed : edgesOk ops = true) {E0 : Env} (hfr : Fr E0 (D 0).n (D ops.size).n)
    {Q : Exit → Act → World → Prop} (hL : LetsGo Q) (hK : ∀ E' a', Ex E0 E' → UB E0 E' (D 0).n (D ops.size).n → Rel N E' ⟨(D ops.size).tm, allF (D ops.size).F ++ (D ops.size).B, (D ops.size).n⟩ a' → Q .normal a' E'.w) :
    ∀ (fuel : Nat) (l : Array Bool) (E : Env) (a : Act) (p : Nat), InvA N ops D E0 l E a → InvH ops D K l E p → (List.range ops.size).countP (fun i => !l.getD i true) ≤ fuel → wpAny P .any ops Q fuel l a E.w := by
  -- all are listed where none is ready
  have all_of : ∀ (l : Array Bool), l.size = ops.size → Region.ready .any ops l = [] → ∀ i, i < ops.size → Lst l i := by
    intro l hl hr i
    induction i using Nat.strongRecOn with
    | _ i ih =>
      intro hi
      by_cases h : Lst l i
      · exact h
      · exfalso
        have : i ∈ Region.ready .any ops l := (ready_spec hl).2 ⟨hi, h, ops[i], Array.getElem?_eq_getElem hi, fun e he hb => by
          have := edgesOk_spec hed (Array.getElem?_eq_getElem hi) he hb
          exact ih e.on this (by omega)⟩
        rw [hr] at this; simp at this
  have fin : ∀ (l : Array Bool) (E : Env) (a : Act) (p : Nat), InvA N ops D E0 l E a → InvH ops D K l E p → (∀ i, i < ops.size → Lst l i) → Q .normal a E.w := by
    intro l E a p hA hH hall
    refine hK E a hA.ex ?_ ⟨hH.base.hr ?_, ?_, fun t x hx => ?_, hA.size, hA.defers⟩
    · intro k hk
      rcases hA.ub k hk with h | ⟨j, hj, h1, h2⟩
      · exact .inl h
      · have hjl : j < ops.size := by have := lst_lt hj; rw [hA.lsz] at this; exact this
        have := hT.n_mono hS (i := 0) (k := j) (by omega) (by omega)
        have := hT.n_mono hS (i := j + 1) (k := ops.size) (by omega) (by omega)
        exact .inr ⟨by omega, by omega⟩
    · have hno : ∀ k, p ≤ k → k < ops.size → K k ≠ 2 := by
        intro k h1 h2 hk2
        have := (hH.louds k h2 hk2).1 (hall k h2)
        omega
      have hBB := hT.B_same hH.p_le (Nat.le_refl _) hno
      intro b blk hb
      rcases uc3 hb with hb | hb
      · obtain ⟨j, f, a1, a3⟩ := uo2 hb
        obtain ⟨hq, rfl⟩ := (hT.F_iff (Nat.le_refl _) j f).1 a1
        obtain ⟨h1, h2, h3⟩ := (hT.q_iff (Nat.le_refl _) j).1 hq
        refine hH.goodF j ?_ (hall j h1) h2 b blk a3
        rcases Nat.lt_or_ge j p with h | h
        · exfalso
          rcases hH.pl with h0 | h0
          · omega
          · by_cases e : j = p - 1
            · subst e; omega
            · exact h3 (p - 1) (by omega) (by have := hH.p_le; omega) h0
        · exact h
      · rw [hBB] at hb; exact hH.goodB b blk hb
    · obtain ⟨hB, hF⟩ := hT.keys hS (i := ops.size) (Nat.le_refl _)
      exact um2 hF hB
    · exact hA.tmps t ops.size (Nat.le_refl _) (fun j o hj _ _ => hall j hj) (fun j o hj _ _ => by have := lst_lt hj; rw [hA.lsz] at this; exact this) x hx
  intro fuel
  induction fuel with
  | zero =>
    intro l E a p hA hH hc
    have hall : ∀ i, i < ops.size → Lst l i := by
      intro i hi
      have h0 : (List.range ops.size).countP (fun i => !l.getD i true) = 0 := by omega
      rw [List.countP_eq_zero] at h0
      have := h0 i (by simpa using hi)
      exact (not_lst (by rw [hA.lsz]; exact hi)).1 (by simpa using this)
    refine ⟨?_, fin l E a p hA hH hall⟩
    rw [List.eq_nil_iff_forall_not_mem]
    intro i hi
    have := (ready_spec hA.lsz).1 hi
    exact this.2.1 (hall i this.1)
  | succ fuel ih =>
    intro l E a p hA hH hc
    refine ⟨fun hr => fin l E a p hA hH (all_of l hA.lsz hr), fun i hi => ?_⟩
    obtain ⟨h1, h2, o, ho, h3⟩ := (ready_spec hA.lsz).1 hi
    refine inv_step hS hT hok hfr hA hH h1 h2 ho h3 hL fun E2 a2 p2 hA2 hH2 => ih _ E2 a2 p2 hA2 hH2 ?_
    have hil : i < l.size := by rw [hA.lsz]; exact h1
    have : (List.range ops.size).countP (fun j => !(l.setIfInBounds i true).getD j true) < (List.range ops.size).countP (fun j => !l.getD j true) := by
      refine count_lt _ (fun x hx => ?_) ⟨i, by simpa using h1, ?_, ?_⟩
      · simp only [Array.getD_eq_getD_getElem?] at hx ⊢
        by_cases e : i = x
        · subst e; simp [hil] at hx
        · rw [Array.getElem?_setIfInBounds_ne e] at hx; exact hx
      · cases hg : l.getD i true with
        | false => rfl
        | true => exact absurd ((not_lst hil).1 hg) h2
      · simp [Array.getD_eq_getD_getElem?, hil]
    omega

theorem cdraw_takes (hS : ue5 P call) {id : Nat} {cs cs' : CS} (h : cdraw P call N lo ops cs = some cs') (hkeys : Keys cs.H cs.n) : Takes P N (.region id ops true) cs cs' := by
  unfold cdraw at h
  split at h <;> try (simp at h; done)
  next hc =>
  simp only [Bool.and_eq_true] at hc
  obtain ⟨⟨hm, hok⟩, hed⟩ := hc
  split at h <;> simp only [Option.some.injEq, reduceCtorEq] at h
  next s hd =>
  obtain ⟨D, K, d1, d2, d3⟩ := dops_trace hS ops.toList _ 0 _ s hd
  rw [Nat.zero_add, Array.length_toList] at d2
  have hT : uf3 P N lo ops D K := by
    refine ⟨fun i hi => ?_, by rw [d1], by rw [d1], by rw [d1], by rw [d1]; exact hkeys⟩
    have := d3 i ops[i] (by simp [hi])
    rw [Nat.zero_add] at this
    exact ⟨ops[i], Array.getElem?_eq_getElem hi, this⟩
  have hle := hT.n_mono hS (i := 0) (k := ops.size) (by omega) (Nat.le_refl _)
  rw [d1, d2] at hle
  subst h
  refine ⟨hle, fun E a Q hR hfr hL hK => wp_region_any hm ?_⟩
  have hlsz : (Array.replicate ops.size false).size = ops.size := by simp
  have hnl : ∀ i, ¬ Lst (Array.replicate ops.size false) i := by
    intro i h
    unfold Lst at h
    rw [Array.getD_eq_getD_getElem?, Array.getElem?_replicate] at h
    split at h <;> simp at h
  refine wpAny_of hS hT hok hed (E0 := E) (by rw [d1, d2]; exact hfr) hL (fun E' a' hex hub hR' => hK E' a' hex (by rw [d1, d2] at hub; exact hub) (by rw [d2] at hR'; exact hR')) ops.size _ E.draw a 0 ?_ ?_ ?_
  · refine ⟨hlsz, fun i hi => absurd hi (hnl i), uf5 E, fun k hk => .inl hk, fun t k hk h1 h2 x hx => ?_, hR.size, hR.defers⟩
    have hsame := hT.tm_same (t := t) (i := 0) (k := k) (by omega) hk (fun j o a1 a2 hoj hdj => hnl j (h1 j o a2 hoj hdj))
    rw [hsame, d1] at hx
    exact (hR.tmps t x hx).mono (uf5 E)
  · refine ⟨Nat.zero_le _, fun j hj hk => ⟨fun h => absurd h (hnl j), fun h => by omega⟩, .inl rfl, fun j hj => by omega, (uh0 hR.heap).base, fun b blk hb => ?_, fun j hj hl => absurd hl (hnl j)⟩
    rw [d1] at hb
    exact (uh0 hR.heap).good hb
  · have := List.countP_le_length (p := fun i => !(Array.replicate ops.size false).getD i true) (l := List.range ops.size)
    simpa using this


theorem hget_miss_all {F : List (Nat × ua8)} {b : Nat} (h : ∀ j f, (j, f) ∈ F → hget f b = none) : hget (allF F) b = none := by
  cases hh : hget (allF F) b with
  | none => rfl
  | some blk =>
    obtain ⟨j, f, h1, h3⟩ := uo2 hh
    rw [h j f h1] at h3; simp at h3

theorem dstep_keeps (hS : ue5 P call) {m : Nat} {i : Nat} {o : Oper} {s s' : DS} {k : Nat} (h : DK P lo ops m i o s k s') :
    s.n ≤ s'.n ∧ (lo ≤ s.n → (∀ c, c < lo → ∀ j f, (j, f) ∈ s.F → hget f c = none) → (∀ c, c < lo → hget s'.B c = hget s.B c) ∧ ∀ c, c < lo → ∀ j f, (j, f) ∈ s'.F → hget f c = none) ∧
      (Keys s.B s.n → (∀ j f, (j, f) ∈ s.F → Keys f s.n) → Keys s'.B s'.n ∧ ∀ j f, (j, f) ∈ s'.F → Keys f s'.n) := by
  cases h with
  | skip h1 => exact ⟨Nat.le_refl _, fun _ h => ⟨fun _ _ => rfl, h⟩, fun h1 h2 => ⟨h1, h2⟩⟩
  | free x h1 h2 => exact ⟨Nat.le_refl _, fun _ h => ⟨fun _ _ => rfl, h⟩, fun h1 h2 => ⟨h1, h2⟩⟩
  | watch x c blk H' h1 h2 h3 h4 => exact ⟨Nat.le_refl _, fun _ h => ⟨fun _ _ => rfl, h⟩, fun h1 h2 => ⟨h1, h2⟩⟩
  | quiet x H' n' h1 h2 h3 =>
    have hkp := h3.1
    refine ⟨hkp.1, fun hl hF => ⟨fun _ _ => rfl, fun c hc j f hf => ?_⟩, fun hB hF => ?_⟩
    · rcases List.mem_cons.1 hf with hf | hf
      · simp at hf
        obtain ⟨rfl, rfl⟩ := hf
        cases hg : hget (fresh s.n H') c with
        | none => rfl
        | some blk => have := (uk4 hg).1; omega
      · exact hF c hc j f hf
    · have hk' := hkp.2.2 (keys_sel hF hB)
      refine ⟨hB.mono hkp.1, fun j f hf => ?_⟩
      rcases List.mem_cons.1 hf with hf | hf
      · simp at hf
        obtain ⟨rfl, rfl⟩ := hf
        exact fun b blk hb => hk' b blk (uk4 hb).2
      · exact (hF j f hf).mono hkp.1
  | loud x H' n' h1 h2 h3 h4 =>
    have hkp := h4.1
    refine ⟨hkp.1, fun hl hF => ⟨fun c hc => ?_, fun c hc j f hf => by simp at hf⟩, fun hB hF => ⟨fun b blk hb => ?_, fun j f hf => by simp at hf⟩⟩
    · have h0 : hget (allF s.F ++ s.B) c = hget s.B c := by rw [ue7, hget_miss_all (fun j f hf => hF c hc j f hf)]
      show hget (keepAll _ _ ++ H') c = _
      by_cases hm : c ∈ atOnce m s.w
      · rw [ue7, uo3 hm, hkp.2.1 hl c hc, hide_mem hm, h0]
        cases hget s.B c <;> rfl
      · rw [ue7, keep_not hm, hkp.2.1 hl c hc, hide_not hm, h0]
    · rcases uc3 hb with hb | hb
      · exact Nat.lt_of_lt_of_le (um2 hF hB b blk (keep_some hb).2) hkp.1
      · exact hkp.2.2 (fun b' blk' hb' => um2 hF hB b' blk' (un5 hb').2) b blk hb

theorem dops_keeps (hS : ue5 P call) : ∀ (rest : List Oper) (ms : List Nat) (i : Nat) (s s' : DS), dops P call N lo ops rest ms i s = some s' →
    s.n ≤ s'.n ∧ (lo ≤ s.n → (∀ c, c < lo → ∀ j f, (j, f) ∈ s.F → hget f c = none) → (∀ c, c < lo → hget s'.B c = hget s.B c) ∧ ∀ c, c < lo → ∀ j f, (j, f) ∈ s'.F → hget f c = none) ∧
      (Keys s.B s.n → (∀ j f, (j, f) ∈ s.F → Keys f s.n) → Keys s'.B s'.n ∧ ∀ j f, (j, f) ∈ s'.F → Keys f s'.n)
  | [], ms, i, s, s', h => by
    simp [dops] at h; subst h
    exact ⟨Nat.le_refl _, fun _ h => ⟨fun _ _ => rfl, h⟩, fun h1 h2 => ⟨h1, h2⟩⟩
  | _ :: _, [], i, s, s', h => by simp [dops] at h
  | o :: rest, m :: ms, i, s, s', h => by
    simp only [dops] at h
    split at h <;> try (simp at h; done)
    next s1 h1 =>
    obtain ⟨_, k, hk⟩ := dstep_kinds hS h1
    obtain ⟨a1, a2, a3⟩ := dstep_keeps hS hk
    obtain ⟨b1, b2, b3⟩ := dops_keeps hS rest ms (i + 1) s1 s' h
    refine ⟨Nat.le_trans a1 b1, fun hl hF => ?_, fun hB hF => ?_⟩
    · obtain ⟨c1, c2⟩ := a2 hl hF
      obtain ⟨d1, d2⟩ := b2 (Nat.le_trans hl a1) c2
      exact ⟨fun c hc => (d1 c hc).trans (c1 c hc), d2⟩
    · obtain ⟨c1, c2⟩ := a3 hB hF
      exact b3 c1 c2

theorem cdraw_keeps (hS : ue5 P call) {cs cs' : CS} (h : cdraw P call N lo ops cs = some cs') : ug7 cs.H cs'.H cs.n cs'.n lo := by
  unfold cdraw at h
  split at h <;> try (simp at h; done)
  split at h <;> simp only [Option.some.injEq, reduceCtorEq] at h
  next s hd =>
  subst h
  obtain ⟨h1, h2, h3⟩ := dops_keeps hS _ _ _ _ _ hd
  refine ⟨h1, fun hl c hc => ?_, fun hk => ?_⟩
  · obtain ⟨a1, a2⟩ := h2 hl (fun c hc j f hf => by simp at hf)
    rw [ue7, hget_miss_all (fun j f hf => a2 c hc j f hf)]
    exact a1 c hc
  · obtain ⟨a1, a2⟩ := h3 hk (fun j f hf => by simp at hf)
    exact um2 a2 a1

end
end Go.Cn
end
noncomputable section
namespace Go.Cn

/-- a step, drawn regions too -/
def cstepD (P : Program) (call : Call) (N lo : Nat) (todo : List Item) (cs : CS) : Option (List Item × CS) :=
  match todo with
  | .code (.region _ ops true) :: k => match cdraw P call N lo ops cs with
    | some cs' => some (k, cs')
    | none => none
  | todo => cstep P call N lo todo cs

/-- to the function's end -/
def crunF (P : Program) (call : Call) (fn : Func) (lo : Nat) : Nat → List Item → CS → Option (CV × ua8 × Nat)
  | 0, _, _ => none
  | f + 1, todo, cs =>
    match cret todo with
    | true => match cresult cs.tm P cs.H fn with | some v => some (v, cs.H, cs.n) | none => none
    | false => match cstepD P call fn.ntmps lo todo cs with
      | some (todo', cs') => crunF P call fn lo f todo' cs'
      | none => none

/-- a call, its calls too: 'd' deep, each of at most 'fuel' steps -/
def evalCall (P : Program) (fuel : Nat) : Nat → Call
  | 0, _, _, _, _, _ => none
  | d + 1, f, args, H, n, lo => match P.funcs[f]? with
    | some fn => match fn.body with
      | some c => if Nat.ble args.length fn.ntmps then crunF P (evalCall P fuel d) fn lo fuel [.code c] ⟨argTm args 0 [], H, n⟩ else none
      | none => none
    | none => none

section
variable {P : Program}

def NoNum (P : Program) : Prop := ∀ (f : Nat) (fn : Func), P.funcs[f]? = some fn → (fn.name == "runtime.NumGoroutine") = false

theorem noNum_of (h : P.funcs.toList.all (fun fn => !(fn.name == "runtime.NumGoroutine")) = true) : NoNum P := by
  intro f fn hf
  rw [List.all_eq_true] at h
  have := h fn (by have := Array.mem_of_getElem? hf; simpa using this)
  simpa using this

theorem un0 {call : Call} (hS : ue5 P call) {N lo : Nat} {todo todo' : List Item} {cs cs' : CS} (h : cstepD P call N lo todo cs = some (todo', cs')) : ug7 cs.H cs'.H cs.n cs'.n lo := by
  unfold cstepD at h
  split at h
  · split at h <;> simp only [Option.some.injEq, Prod.mk.injEq, reduceCtorEq] at h
    next hc => obtain ⟨rfl, rfl⟩ := h; exact cdraw_keeps hS hc
  · exact cstep_keeps hS h

theorem um0 {call : Call} (hS : ue5 P call) {f : FuncId} {N lo n0 top : Nat} {todo todo' : List Item} {cs cs' : CS} {Q : CV → ua8 → Prop} (h : cstepD P call N lo todo cs = some (todo', cs'))
    (hn : n0 ≤ cs.n) (ht : cs'.n ≤ top) (hg : Goes P f N n0 top todo' cs' Q) : Goes P f N n0 top todo cs Q := by
  unfold cstepD at h
  split at h
  · split at h <;> simp only [Option.some.injEq, Prod.mk.injEq, reduceCtorEq] at h
    next hc =>
    obtain ⟨rfl, rfl⟩ := h
    intro E0 E a b callers h1 h2 h3 h4 h5 h6 h7
    exact uo0 (cdraw_takes hS hc h6.keys) hn ht hg E0 E a b callers h1 h2 h3 h4 h5 h6 h7
  · exact goes_cstep hS h hn ht hg

theorem crunF_keeps {call : Call} (hS : ue5 P call) {fn : Func} {lo : Nat} : ∀ (fuel : Nat) (todo : List Item) (cs : CS) (x : CV) (H' : ua8) (n' : Nat), crunF P call fn lo fuel todo cs = some (x, H', n') → ug7 cs.H H' cs.n n' lo := by
  intro fuel
  induction fuel with
  | zero => intro todo cs x H' n' h; simp [crunF] at h
  | succ fuel ih =>
    intro todo cs x H' n' h
    simp only [crunF] at h
    split at h
    · split at h <;> simp only [Option.some.injEq, Prod.mk.injEq, reduceCtorEq] at h
      obtain ⟨rfl, rfl, rfl⟩ := h; exact .refl
    · split at h <;> try (simp at h; done)
      next todo' cs' hc => exact (un0 hS hc).trans (ih _ _ _ _ _ h)

theorem crunF_goes {call : Call} (hS : ue5 P call) {f : FuncId} {fn : Func} (hf : P.funcs[f]? = some fn) {lo n0 : Nat} : ∀ (fuel : Nat) (todo : List Item) (cs : CS) (x : CV) (H' : ua8) (n' : Nat), crunF P call fn lo fuel todo cs = some (x, H', n') → n0 ≤ cs.n →
    Goes P f fn.ntmps n0 n' todo cs fun y K => y = x ∧ K = H' := by
  intro fuel
  induction fuel with
  | zero => intro todo cs x H' n' h; simp [crunF] at h
  | succ fuel ih =>
    intro todo cs x H' n' h hn
    simp only [crunF] at h
    split at h
    · next hr =>
      split at h <;> simp only [Option.some.injEq, Prod.mk.injEq, reduceCtorEq] at h
      next v hv =>
      obtain ⟨rfl, rfl, rfl⟩ := h
      exact goes_ret hf hr hv ⟨rfl, rfl⟩
    · split at h <;> try (simp at h; done)
      next todo' cs' hc =>
      have hk := un0 hS hc
      have hk2 := crunF_keeps hS _ _ _ _ _ _ h
      exact um0 hS hc hn hk2.1 (ih _ _ _ _ _ h (Nat.le_trans hn hk.1))

theorem evalCall_sound (hN : NoNum P) (fuel : Nat) : ∀ d, ue5 P (evalCall P fuel d) := by
  intro d
  induction d with
  | zero => intro f args H n lo x H' n' h; simp [evalCall] at h
  | succ d ih =>
    intro f args H n lo x H' n' h
    simp only [evalCall] at h
    split at h <;> try (simp at h; done)
    next fn hf =>
    split at h <;> try (simp at h; done)
    next c hb =>
    split at h <;> try (simp at h; done)
    next hl =>
    exact ⟨⟨fn, hf, by rw [hb]; rfl, hN f fn hf⟩, crunF_keeps ih _ _ _ _ _ _ h, uo4 hf hb (Nat.le_of_ble_eq_true hl) (crunF_goes ih hf _ _ _ _ _ _ h (Nat.le_refl _))⟩

/-! ### contracts on data alone -/
structure Le (E E' : Env) : Prop where
  fwd : ∀ b r, E.ρ b = some r → E'.ρ b = some r
  I : ∀ r, E.I r → E'.I r ∧ E'.w.heap[r]? = E.w.heap[r]?
  sz : ∀ r, bsz E.w r ≤ bsz E'.w r

theorem Ex.le {E E' : Env} (h : Ex E E') : Le E E' := ⟨h.fwd, h.I, h.sz⟩

theorem VR.le {E E' : Env} {x : CV} {v : Value} (h : VR E x v) (l : Le E E') : VR E' x v := by
  have hU : ∀ b, E.U b → E'.U b ∧ ∀ r, E'.ρ b = some r → E.ρ b = some r := by
    intro b hb
    obtain ⟨r, hr⟩ := uj8.1 hb
    refine ⟨uj8.2 ⟨r, l.fwd b r hr⟩, fun r' hr' => ?_⟩
    rw [l.fwd b r hr] at hr'
    cases hr'; exact hr
  induction h with
  | bool b => exact .bool b
  | int k n => exact .int k n
  | str s => exact .str s
  | ptr b off ad hb hv => exact .ptr b off ad (hU b hb).1 fun r hr => hv r ((hU b hb).2 r hr)
  | nilptr => exact .nilptr
  | rop cells off r base vs hI hc _ ih => exact .rop cells off r base vs (l.I r hI).1 (fun j x hj => (uj3 (l.I r hI).2).trans (hc j x hj)) ih
  | slice sz b off len cap ad cap' hb hv hl hc =>
    refine .slice sz b off len cap ad cap' (hU b hb).1 (fun r hr => ?_) hl hc
    obtain ⟨h1, h4⟩ := hv r ((hU b hb).2 r hr)
    exact ⟨h1, Nat.le_trans h4 (l.sz r)⟩
  | ro sz xs cap a cap' r o vs h1 h2 h3 h4 h5 _ ih =>
    refine .ro sz xs cap a cap' r o vs h1 h2 (fun hx => ⟨(h3 hx).1, (l.I r (h3 hx).2).1⟩) h4 (fun i j c x hi hj => ?_) ih
    have hx : xs ≠ [] := by rintro rfl; simp at hi
    exact (uj3 (l.I r (h3 hx).2).2).trans (h5 i j c x hi hj)
  | fn f first captured fs cs h1 h2 _ _ ih1 ih2 => exact .fn f first captured fs cs h1 h2 ih1 ih2
  | nilfn => exact .nilfn
  | agg cs vs h1 _ ih => exact .agg cs vs h1 ih
  | tup cs vs h1 _ ih => exact .tup cs vs h1 ih

/-- speaks of no block by number -/
def ub0 (x : CV) : Prop := ∀ (E : Env) (ρ' : Nat → Option Nat) (L' : Nat → Prop) (v : Value), VR E x v → VR { E with ρ := ρ', L := L' } x v

theorem ua5 {b : Bool} : ub0 (.bool b) := fun E ρ' L' v h => by cases h; exact .bool b
theorem ua1 {k : IntKind} {n : Int} : ub0 (.int k n) := fun E ρ' L' v h => by cases h; exact .int k n
theorem clean_agg {cs : List CV} (hc : ∀ x ∈ cs, ub0 x) : ub0 (.agg cs) := fun E ρ' L' v h => by
  cases h with
  | agg _ vs h1 h2 => exact .agg cs vs h1 fun i x v hx hv => hc x (List.mem_of_getElem? hx) E ρ' L' v (h2 i x v hx hv)
theorem clean_tup {cs : List CV} (hc : ∀ x ∈ cs, ub0 x) : ub0 (.tup cs) := fun E ρ' L' v h => by
  cases h with
  | tup _ vs h1 h2 => exact .tup cs vs h1 fun i x v hx hv => hc x (List.mem_of_getElem? hx) E ρ' L' v (h2 i x v hx hv)
theorem uc4 {sz : Nat} {xs : List (List CV)} {cap : Option Nat} (hc : ∀ c ∈ xs, ∀ x ∈ c, ub0 x) : ub0 (.ro sz xs cap) := fun E ρ' L' v h => by
  cases h with
  | ro _ _ _ a cap' r o vs h1 h2 h3 h4 h5 h6 =>
    exact .ro sz xs cap a cap' r o vs h1 h2 h3 h4 h5 fun i j c x hi hj => hc c (List.mem_of_getElem? hi) x (List.mem_of_getElem? hj) E ρ' L' _ (h6 i j c x hi hj)

/-- the function takes these data to that datum, and writes nothing that was there -/
def PC (P : Program) (f : FuncId) (args : List CV) (x : CV) : Prop :=
  ∀ (E : Env) (vs : Array Value), Base E → VRs E args vs → Calls P f vs E.w fun e w' =>
    ∃ v E', e = .returned v ∧ E'.w = w' ∧ E'.ρ = E.ρ ∧ E'.L = E.L ∧ Ex E E' ∧ Base E' ∧ VR E' x v ∧ ∀ r, r < E.w.heap.size → w'.heap[r]? = E.w.heap[r]?

/-- all blocks of the calculus' own are given up for good -/
def Env.frozen (E : Env) : Env := { ρ := fun _ => none, L := fun _ => False, I := fun r => E.I r ∨ ∃ b, E.L b ∧ E.ρ b = some r, w := E.w }

/-- given up for good, y in K reads as x -/
def Frz (K : ua8) (y x : CV) : Prop := ∀ (E : Env) (v : Value), HR E K → VR E y v → VR E.frozen x v

theorem ua4 {K : ua8} {x : CV} (hc : ub0 x) : Frz K x x := by
  intro E v hH hv
  exact (hc E (fun _ => none) (fun _ => False) v hv).le ⟨fun b r h => by simp at h, fun r h => ⟨.inl h, rfl⟩, fun _ => Nat.le_refl _⟩

theorem frz_tup {K : ua8} {ys xs : List CV} (hl : ys.length = xs.length) (h : ∀ (i : Nat) y x, ys[i]? = some y → xs[i]? = some x → Frz K y x) : Frz K (.tup ys) (.tup xs) := by
  intro E v hH hv
  cases hv with
  | tup _ vs h1 h2 =>
    refine .tup xs vs (by rw [h1, hl]) fun i x v hx hv => ?_
    have hlt : i < ys.length := by
      rcases Nat.lt_or_ge i xs.length with h' | h'
      · omega
      · rw [List.getElem?_eq_none h'] at hx; simp at hx
    exact h i ys[i] x (List.getElem?_eq_getElem hlt) hx E v hH (h2 i _ v (List.getElem?_eq_getElem hlt) hv)

theorem frz_agg {K : ua8} {ys xs : List CV} (hl : ys.length = xs.length) (h : ∀ (i : Nat) y x, ys[i]? = some y → xs[i]? = some x → Frz K y x) : Frz K (.agg ys) (.agg xs) := by
  intro E v hH hv
  cases hv with
  | agg _ vs h1 h2 =>
    refine .agg xs vs (by rw [h1, hl]) fun i x v hx hv => ?_
    have hlt : i < ys.length := by
      rcases Nat.lt_or_ge i xs.length with h' | h'
      · omega
      · rw [List.getElem?_eq_none h'] at hx; simp at hx
    exact h i ys[i] x (List.getElem?_eq_getElem hlt) hx E v hH (h2 i _ v (List.getElem?_eq_getElem hlt) hv)

theorem frz_slice {K : ua8} {sz b off len : Nat} {cap : Option Nat} {blk : List CV} {xs : List (List CV)} (hg : hget K b = some blk) (hl : xs.length = len) (hs : ∀ c ∈ xs, c.length = sz)
    (hx : ∀ (i j : Nat) c x, xs[i]? = some c → c[j]? = some x → ∃ y, blk[off + i * sz + j]? = some y ∧ Frz K y x) : Frz K (.slice sz b off len cap) (.ro sz xs none) := by
  intro E v hH hv
  cases hv with
  | slice _ _ _ _ _ ad cap' h1 h2 h3 h4 =>
    obtain ⟨r, hr, c', el, lo, hi, hc, hf, hs', hxx⟩ := hH.get b blk hg
    obtain ⟨rfl, hB⟩ := h2 r hr
    subst hl
    refine .ro sz xs none (some ⟨r, off, none⟩) cap' r off (fun i j => c'.getD (off + i * sz + j) undef) h3 (fun c hc => by simp at hc) (fun _ => ⟨rfl, .inr ⟨b, hH.live b blk hg, hr⟩⟩) hs (fun i j c x hi hj => ?_) (fun i j c x hi hj => ?_)
    · obtain ⟨y, hy, _⟩ := hx i j c x hi hj
      have hlt : off + i * sz + j < blk.length := by
        rcases Nat.lt_or_ge (off + i * sz + j) blk.length with h' | h'
        · exact h'
        · rw [List.getElem?_eq_none h'] at hy; simp at hy
      have : off + i * sz + j < c'.size := by omega
      show World.cell? E.w _ = _
      simp [World.cell?, hc, this]
    · obtain ⟨y, hy, hfz⟩ := hx i j c x hi hj
      have hlt : off + i * sz + j < blk.length := by
        rcases Nat.lt_or_ge (off + i * sz + j) blk.length with h' | h'
        · exact h'
        · rw [List.getElem?_eq_none h'] at hy; simp at hy
      have : off + i * sz + j < c'.size := by omega
      refine hfz E _ hH (hxx _ y _ hy ?_)
      simp [this]

theorem pc_of_hc {f : FuncId} {args : List CV} {top : Nat} {x : CV} {Q : CV → ua8 → Prop} (h : HC P f args [] 0 top Q) (hc : ∀ y ∈ args, ub0 y) (hx : ub0 x) (hq : ∀ y K, Q y K → Frz K y x) : PC P f args x := by
  intro E vs hB hv
  let E0 : Env := { ρ := fun _ => none, L := fun _ => False, I := E.I, w := E.w }
  have hH0 : HR E0 [] := ⟨fun b blk hb => by simp [uc2, ub2] at hb, fun b blk hb => by simp [uc2, ub2] at hb, fun b b' r l => l.elim, fun b r l => l.elim, hB.Ilt⟩
  have hv0 : VRs E0 args vs := ⟨hv.1, fun i y v hy hv' => hc y (List.mem_of_getElem? hy) E _ _ v (hv.2 i y v hy hv')⟩
  refine (h E0 vs (fun k _ _ hk => hk rfl) (fun b blk hb => by simp [uc2, ub2] at hb) hH0 hv0).mono ?_
  rintro e w' ⟨v, y, K, E1, rfl, rfl, hex, hh, hub, hvr, hQ⟩
  · have hout : ∀ r, r < E.w.heap.size → E1.w.heap[r]? = E.w.heap[r]? ∧ ∀ b, E1.L b → E1.ρ b ≠ some r := fun r hr => hex.out r hr (fun b l => l.elim)
    have hnew : ∀ r, E1.frozen.I r → E.I r ∨ E.w.heap.size ≤ r := by
      rintro r (h1 | ⟨b, hl, hb⟩)
      · rcases hex.newI r h1 with h2 | h2 | ⟨b, l, _⟩
        · exact .inl h2
        · exact .inr h2
        · exact l.elim
      · rcases Nat.lt_or_ge r E.w.heap.size with h2 | h2
        · exact absurd hb ((hout r h2).2 b hl)
        · exact .inr h2
    have hfz := hx _ E.ρ E.L v (hq y K hQ E1 v hh hvr)
    refine ⟨v, { ρ := E.ρ, L := E.L, I := E1.frozen.I, w := E1.w }, rfl, rfl, rfl, rfl, ⟨fun _ _ h => h, fun _ _ h => h, fun r hr => ⟨.inl (hex.I r hr).1, (hex.I r hr).2⟩, hex.sz, hex.grow,
      fun r hr hn => ⟨(hout r hr).1, hn⟩, fun r hr => (hnew r hr).imp id .inl, hex.io⟩, ⟨hB.inj, fun b r l hr => ?_, ?_⟩, hfz, fun r hr => (hout r hr).1⟩
    · obtain ⟨h1, h2⟩ := hB.lt b r l hr
      refine ⟨fun hI => ?_, Nat.lt_of_lt_of_le h2 hex.grow⟩
      rcases hnew r hI with g | g
      · exact h1 g
      · omega
    · rintro r (h1 | ⟨b, hl, hb⟩)
      · exact hh.Ilt r h1
      · exact (hh.lt b r hl hb).2

theorem hc_of_pc {f : FuncId} {args : List CV} {x : CV} (h : PC P f args x) (H : ua8) (n : Nat) : HC P f args H n n fun y K => y = x ∧ K = H := by
  intro E vs hfr hky hH hv
  refine (h E vs hH.base hv).mono ?_
  rintro e w' ⟨v, E', rfl, rfl, hρ, hL, hex, hB, hvr, hold⟩
  · refine ⟨v, x, H, E', rfl, rfl, hex, hB.hr (fun b blk hb => ?_), .of_eq hρ, hvr, rfl, rfl⟩
    obtain ⟨r, hr, c, el, lo, hi, hc, hf, hs, hx⟩ := hH.get b blk hb
    have hl := hH.live b blk hb
    exact ⟨by rw [hL]; exact hl, r, by rw [hρ]; exact hr, c, el, lo, hi, (hold r (hH.lt b r hl hr).2).trans hc, hf, hs, fun j x v h1 h2 => (hx j x v h1 h2).mono hex⟩

end
end Go.Cn
end
noncomputable section
namespace Go.Cn

def pur (x : Option CV) (H : ua8) (n : Nat) : Option (CV × ua8 × Nat) := match x with | some v => some (v, H, n) | none => none

def iand (k : IntKind) (a b : Int) : Int := k.wrap (BitVec.ofInt k.bits a &&& BitVec.ofInt k.bits b).toNat
def ior (k : IntKind) (a b : Int) : Int := k.wrap (BitVec.ofInt k.bits a ||| BitVec.ofInt k.bits b).toNat
def ixor (k : IntKind) (a b : Int) : Int := k.wrap (BitVec.ofInt k.bits a ^^^ BitVec.ofInt k.bits b).toNat

def fint (op : BinOp) : IntKind → Int → Int → Option CV :=
  match op with
  | .add => fun k a b => some (.int k (k.wrap (a + b)))
  | .sub => fun k a b => some (.int k (k.wrap (a - b)))
  | .mul => fun k a b => some (.int k (k.wrap (a * b)))
  | .quo => fun k a b => if b = 0 then none else some (.int k (k.wrap (a.tdiv b)))
  | .rem => fun k a b => if b = 0 then none else some (.int k (a.tmod b))
  | .and => fun k a b => some (.int k (iand k a b))
  | .or => fun k a b => some (.int k (ior k a b))
  | .xor => fun k a b => some (.int k (ixor k a b))
  | .eql => fun k a b => some (.bool (a == b))
  | .neq => fun k a b => some (.bool (a != b))
  | .lss => fun k a b => some (.bool (a < b))
  | .leq => fun k a b => some (.bool (a ≤ b))
  | .gtr => fun k a b => some (.bool (a > b))
  | .geq => fun k a b => some (.bool (a ≥ b))
  | op => fun k a b => cint op k a b

theorem fint_eq (op : BinOp) (k : IntKind) (a b : Int) : fint op k a b = cint op k a b := by cases op <;> rfl

def fbinI (op : BinOp) : IntKind → Int → IntKind → Int → Option CV :=
  match op with
  | .shl => fun k a k' b => if b < 0 then none else some (.int k (k.wrap (a * 2 ^ (min b.toNat k.bits))))
  | .shr => fun k a k' b => if b < 0 then none else some (.int k (a.fdiv (2 ^ (min b.toNat k.bits))))
  | op => fun k a k' b => if k = k' then fint op k a b else none

def fbin (P : Program) (op : BinOp) (t : TypeId) (x y : CV) : Option CV :=
  match x with
  | .int k a => match y with
    | .int k' b => fbinI op k a k' b
    | y => cbin P op t (.int k a) y
  | x => cbin P op t x y

theorem fbin_eq (P : Program) (op : BinOp) (t : TypeId) (x y : CV) : fbin P op t x y = cbin P op t x y := by
  unfold fbin
  split
  · split
    · unfold fbinI cbin
      cases op <;> simp only [fint_eq]
    · rfl
  · rfl

def fcallee (c : Callee) : Program → Call → Array TypeId → List CV → CTm → ua8 → Nat → Nat → Option (CV × ua8 × Nat) :=
  match c with
  | .value f => fun P call ts args tm H n lo => match cval tm f with
      | some (.fn (.func g) first captured) => call g (first ++ args ++ captured) H n lo
      | _ => none
  | .builtin .len => fun P call ts args tm H n lo => match args with | [x] => pur (clen P ts x) H n | _ => none
  | .builtin .append => fun P call ts args tm H n lo => match args with | [s, y] => cappend P ts s y H n lo | _ => none
  | .builtin .copy => fun P call ts args tm H n lo => match args with | [s, y] => ccopy P ts s y H n lo | _ => none
  | .builtin .max => fun P call ts args tm H n lo => match args with | x :: r => pur (cminmax true x r) H n | [] => none
  | .builtin .min => fun P call ts args tm H n lo => match args with | x :: r => pur (cminmax false x r) H n | [] => none
  | _ => fun P call ts args tm H n lo => none

def fcall (P : Program) (call : Call) (c : Go.Call) (tm : CTm) (H : ua8) (n lo : Nat) : Option (CV × ua8 × Nat) :=
  match cvals tm c.args.toList with
  | none => none
  | some args => fcallee c.callee P call c.argTypes args tm H n lo

theorem fcall_eq (P : Program) (call : Call) (c : Go.Call) (tm : CTm) (H : ua8) (n lo : Nat) : fcall P call c tm H n lo = ccall P call c tm H n lo := by
  unfold fcall ccall
  cases cvals tm c.args.toList with
  | none => rfl
  | some args =>
    simp only
    cases c.callee with
    | value f => rfl
    | builtin b => cases b <;> rfl
    | _ => rfl

def fop (op : Op) : Program → Call → CTm → ua8 → Nat → Nat → Option (CV × ua8 × Nat) :=
  match op with
  | .move x => fun P call tm H n lo => pur (cval tm x) H n
  | .assign x => fun P call tm H n lo => pur (cval tm x) H n
  | .pick c a b => fun P call tm H n lo => match cval tm c with
    | some (.bool true) => pur (cval tm a) H n
    | some (.bool false) => pur (cval tm b) H n
    | _ => none
  | .alloc t => fun P call tm H n lo => match czero P t with | some z => some (.ptr n 0, (n, z) :: H, n + 1) | none => none
  | .box _ x => fun P call tm H n lo => match cval tm x with | some v => some (.ptr n 0, (n, v.cells) :: H, n + 1) | none => none
  | .build t parts => fun P call tm H n lo => match cparts tm parts.toList with | some ps => pur (cbuild P t ps) H n | none => none
  | .buildSlice t len parts => fun P call tm H n lo => match cparts tm parts.toList with | some ps => cbuildSlice P t len ps H n | none => none
  | .load t a => fun P call tm H n lo => match cval tm a with | some x => pur (cload P t x H) H n | none => none
  | .store t a x => fun P call tm H n lo => cop P call (.store t a x) tm H n lo
  | .nilCheck x => fun P call tm H n lo => match cval tm x with | some v => (match isLive H v with | true => some (v, H, n) | false => none) | none => none
  | .binOp op t x y c => fun P call tm H n lo => match cval tm x with | some a => (match cval tm y with | some b => pur (fbin P op t a b) H n | none => none) | none => none
  | .unOp op t x => fun P call tm H n lo => match cval tm x with | some a => pur (cun op a) H n | none => none
  | .convert s d x => fun P call tm H n lo => match cval tm x with | some a => cconvert P s d a H n | none => none
  | .makeFunc f first captured => fun P call tm H n lo => match cvals tm first.toList, cvals tm captured.toList with
    | some a, some b => some (.fn f a b, H, n)
    | _, _ => none
  | .makeSlice t l c => fun P call tm H n lo => match cval tm l, cval tm c with | some a, some b => cmakeSlice P t a b H n | _, _ => none
  | .slice t x lo' hi mx => fun P call tm H n lo => match cval tm x, optVal tm lo', optVal tm hi, optVal tm mx with
    | some a, some l, some h, some m => pur (cslice P t a l h m H) H n
    | _, _, _, _ => none
  | .fieldAddr t x f => fun P call tm H n lo => match cval tm x with | some a => pur (cfieldAddr P t a f) H n | none => none
  | .field t x f => fun P call tm H n lo => match cval tm x with | some a => pur (cfield P t a f) H n | none => none
  | .indexAddr t x i => fun P call tm H n lo => match cval tm x with | some a => (match cval tm i with | some b => pur (cindexAddr P t a b) H n | none => none) | none => none
  | .index t x i => fun P call tm H n lo => match cval tm x with | some a => (match cval tm i with | some b => pur (cindex P t a b) H n | none => none) | none => none
  | .extract x i => fun P call tm H n lo => match cval tm x with | some (.tup vs) => pur vs[i]? H n | _ => none
  | .call c => fun P call tm H n lo => fcall P call c tm H n lo
  | op => fun P call tm H n lo => cop P call op tm H n lo

theorem fop_eq (P : Program) (call : Call) (op : Op) (tm : CTm) (H : ua8) (n lo : Nat) : fop op P call tm H n lo = cop P call op tm H n lo := by
  cases op <;> try rfl
  case binOp op t x y c => simp only [fop, cop, fbin_eq, pur]; cases cval tm x <;> cases cval tm y <;> rfl
  case nilCheck x => simp only [fop, cop]; cases cval tm x with | none => rfl | some v => simp only; cases isLive H v <;> rfl
  case indexAddr t x i => simp only [fop, cop, pur]; cases cval tm x <;> cases cval tm i <;> rfl
  case index t x i => simp only [fop, cop, pur]; cases cval tm x <;> cases cval tm i <;> rfl
  case call c => simp only [fop, cop, fcall_eq]

def fops (P : Program) (call : Call) (N lo : Nat) (ops : Array Oper) : List Oper → CS → Option CS
  | [], cs => some cs
  | o :: rest, cs =>
    match isSmall N o.dst with
    | true => match cwanted ops cs.tm o.guard with
      | some true => match fop o.op P call cs.tm cs.H cs.n lo with
        | some (x, H, n) => fops P call N lo ops rest ⟨cput cs.tm o.dst x, H, n⟩
        | none => none
      | some false => fops P call N lo ops rest ⟨cput cs.tm o.dst (.tup []), cs.H, cs.n⟩
      | none => none
    | false => none

theorem fops_eq (P : Program) (call : Call) (N lo : Nat) (ops : Array Oper) : ∀ (rest : List Oper) (cs : CS), fops P call N lo ops rest cs = cops P call N lo ops rest cs
  | [], cs => rfl
  | o :: rest, cs => by
    simp only [fops, cops, fop_eq]
    cases isSmall N o.dst with
    | false => rfl
    | true =>
      simp only [if_true]
      cases cwanted ops cs.tm o.guard with
      | none => rfl
      | some b =>
        cases b with
        | false => exact fops_eq P call N lo ops rest _
        | true =>
          simp only
          cases cop P call o.op cs.tm cs.H cs.n lo with
          | none => rfl
          | some r => exact fops_eq P call N lo ops rest _

def fcode (c : Code) : Program → Call → Nat → Nat → List Item → CS → Option (List Item × CS) :=
  match c with
  | .skip => fun P call N lo k cs => some (k, cs)
  | .label _ => fun P call N lo k cs => some (k, cs)
  | .seq a b => fun P call N lo k cs => some (.code a :: .code b :: k, cs)
  | .cond c t e => fun P call N lo k cs => match cval cs.tm c with
    | some (.bool b) => match b with
      | true => some (.code t :: k, cs)
      | false => some (.code e :: k, cs)
    | _ => none
  | .block id b => fun P call N lo k cs => some (.code b :: .inBlock id :: k, cs)
  | .loop b => fun P call N lo k cs => some (.code b :: .inLoop b :: k, cs)
  | .scope b => fun P call N lo k cs => some (.code b :: .inScope b :: k, cs)
  | .exit id => fun P call N lo k cs => match exitTo id k with | some k' => some (k', cs) | none => none
  | .goto l => fun P call N lo k cs => match gotoIn l k with | some k' => some (k', cs) | none => none
  | .region id ops d => fun P call N lo k cs => match d with
    | false => (match fops P call N lo ops ops.toList cs with | some cs' => some (k, cs') | none => none)
    | true => (match cdraw P call N lo ops cs with | some cs' => some (k, cs') | none => none)
  | _ => fun P call N lo k cs => none

def fitem (i : Item) : Program → Call → Nat → Nat → List Item → CS → Option (List Item × CS) :=
  match i with
  | .code c => fcode c
  | .inBlock _ => fun P call N lo k cs => some (k, cs)
  | .inScope _ => fun P call N lo k cs => some (k, cs)
  | .inLoop b => fun P call N lo k cs => some (.code b :: .inLoop b :: k, cs)
  | _ => fun P call N lo k cs => none

def fstep (P : Program) (call : Call) (N lo : Nat) (todo : List Item) (cs : CS) : Option (List Item × CS) :=
  match todo with
  | [] => none
  | i :: k => fitem i P call N lo k cs

theorem fstep_eq (P : Program) (call : Call) (N lo : Nat) (todo : List Item) (cs : CS) : fstep P call N lo todo cs = cstepD P call N lo todo cs := by
  cases todo with
  | nil => rfl
  | cons i k =>
    cases i with
    | code c =>
      cases c with
      | region id ops d => cases d <;> simp only [fstep, fitem, fcode, cstepD, cstep, fops_eq] <;> rfl
      | _ => rfl
    | _ => rfl

def frunF (P : Program) (call : Call) (fn : Func) (lo : Nat) : Nat → List Item → CS → Option (CV × ua8 × Nat)
  | 0, _, _ => none
  | f + 1, todo, cs =>
    match cret todo with
    | true => match cresult cs.tm P cs.H fn with | some v => some (v, cs.H, cs.n) | none => none
    | false => match fstep P call fn.ntmps lo todo cs with
      | some (todo', cs') => frunF P call fn lo f todo' cs'
      | none => none

theorem frunF_eq (P : Program) (call : Call) (fn : Func) (lo : Nat) : ∀ (f : Nat) (todo : List Item) (cs : CS), frunF P call fn lo f todo cs = crunF P call fn lo f todo cs
  | 0, _, _ => rfl
  | f + 1, todo, cs => by
    simp only [frunF, crunF, fstep_eq]
    cases cret todo with
    | true => rfl
    | false =>
      simp only
      cases cstepD P call fn.ntmps lo todo cs with
      | none => rfl
      | some r => exact frunF_eq P call fn lo f _ _

def fevalCall (P : Program) (fuel : Nat) : Nat → Call
  | 0, _, _, _, _, _ => none
  | d + 1, f, args, H, n, lo => match P.funcs[f]? with
    | some fn => match fn.body with
      | some c => match Nat.ble args.length fn.ntmps with
        | true => frunF P (fevalCall P fuel d) fn lo fuel [.code c] ⟨argTm args 0 [], H, n⟩
        | false => none
      | none => none
    | none => none

theorem fevalCall_eq (P : Program) (fuel : Nat) : ∀ (d : Nat), fevalCall P fuel d = evalCall P fuel d
  | 0 => rfl
  | d + 1 => by
    funext f args H n lo
    simp only [fevalCall, evalCall, frunF_eq, fevalCall_eq P fuel d]
    cases P.funcs[f]? with
    | none => rfl
    | some fn =>
      simp only
      cases fn.body with
      | none => rfl
      | some c =>
        simp only
        cases h : Nat.ble args.length fn.ntmps with
        | true => rw [if_pos rfl]
        | false => rw [if_neg (by simp)]

end Go.Cn
end
noncomputable section
namespace Go.Cn

mutual
/-- a value under other numbers; what is read-only is left as it is -/
def CV.ren (g : Nat → Option Nat) : CV → Option CV
  | .ptr b off => match g b with | some b' => some (.ptr b' off) | none => none
  | .slice sz b off len cap => match g b with | some b' => some (.slice sz b' off len cap) | none => none
  | .agg l => match renL g l with | some l' => some (.agg l') | none => none
  | .tup l => match renL g l with | some l' => some (.tup l') | none => none
  | .fn f a b => match renL g a, renL g b with | some a', some b' => some (.fn f a' b') | _, _ => none
  | x => some x
def renL (g : Nat → Option Nat) : List CV → Option (List CV)
  | [] => some []
  | x :: xs => match CV.ren g x, renL g xs with | some y, some ys => some (y :: ys) | _, _ => none
end

mutual
/-- what is read-only inside speaks of no number -/
def CV.Tidy : CV → Prop
  | .agg l => uj6 l
  | .tup l => uj6 l
  | .fn _ a b => uj6 a ∧ uj6 b
  | .rop c off => ub0 (.rop c off)
  | .ro sz xs cap => ub0 (.ro sz xs cap)
  | _ => True
def uj6 : List CV → Prop
  | [] => True
  | x :: xs => CV.Tidy x ∧ uj6 xs
end

theorem up2 {g : Nat → Option Nat} : ∀ {xs ys : List CV}, renL g xs = some ys → ys.length = xs.length ∧ ∀ (i : Nat) x, xs[i]? = some x → ∃ y, ys[i]? = some y ∧ x.ren g = some y
  | [], ys, h => by simp [renL] at h; subst h; simp
  | x :: xs, ys, h => by
    simp only [renL] at h
    split at h <;> simp only [Option.some.injEq, reduceCtorEq] at h
    next y ys' h1 h2 =>
    subst h
    obtain ⟨a1, a2⟩ := up2 h2
    refine ⟨by simp [a1], fun i x' hi => ?_⟩
    cases i with
    | zero => simp at hi; subst hi; exact ⟨y, by simp, h1⟩
    | succ i => simpa using a2 i x' (by simpa using hi)

theorem ug2 : ∀ {xs : List CV}, uj6 xs → ∀ (i : Nat) x, xs[i]? = some x → x.Tidy
  | [], _, i, x, h => by simp at h
  | y :: xs, ht, i, x, h => by
    cases i with
    | zero => simp at h; subst h; exact ht.1
    | succ i => exact ug2 ht.2 i x (by simpa using h)

def lookR : List (Nat × Nat) → Nat → Option Nat
  | [], _ => none
  | (b, c) :: r, k => match Nat.beq b k with | true => some c | false => lookR r k

/-- numbers between n0 and top are renamed, the others stay -/
def renN (n0 top : Nat) (pi : List (Nat × Nat)) (b : Nat) : Option Nat := match Nat.ble n0 b && Nat.blt b top with | true => lookR pi b | false => some b

def Env.ren (E : Env) (n0 top : Nat) (pi : List (Nat × Nat)) : Env :=
  { E with ρ := fun b => (renN n0 top pi b).bind E.ρ, L := fun b => ∃ b', renN n0 top pi b = some b' ∧ E.L b' }

theorem ug8 {g : Nat → Option Nat} {x y : CV} (h : x.ren g = some y) : match y with
    | .ptr b' off => ∃ b, x = .ptr b off ∧ g b = some b'
    | .slice sz b' off len cap => ∃ b, x = .slice sz b off len cap ∧ g b = some b'
    | .agg l' => ∃ l, x = .agg l ∧ renL g l = some l'
    | .tup l' => ∃ l, x = .tup l ∧ renL g l = some l'
    | .fn f a' b' => ∃ a b, x = .fn f a b ∧ renL g a = some a' ∧ renL g b = some b'
    | y => x = y := by
  cases x <;> simp only [CV.ren] at h
  case ptr b off => split at h <;> simp only [Option.some.injEq, reduceCtorEq] at h; next b' hb => subst h; exact ⟨b, rfl, hb⟩
  case slice sz b off len cap => split at h <;> simp only [Option.some.injEq, reduceCtorEq] at h; next b' hb => subst h; exact ⟨b, rfl, hb⟩
  case agg l => split at h <;> simp only [Option.some.injEq, reduceCtorEq] at h; next b' hb => subst h; exact ⟨l, rfl, hb⟩
  case tup l => split at h <;> simp only [Option.some.injEq, reduceCtorEq] at h; next b' hb => subst h; exact ⟨l, rfl, hb⟩
  case fn f a b => split at h <;> simp only [Option.some.injEq, reduceCtorEq] at h; next a' b' h1 h2 => subst h; exact ⟨a, b, rfl, h1, h2⟩
  all_goals (simp only [Option.some.injEq] at h; subst h; rfl)

theorem vr_ren {E : Env} {n0 top : Nat} {pi : List (Nat × Nat)} {y : CV} {v : Value} (h : VR E y v) : ∀ {x : CV}, x.ren (renN n0 top pi) = some y → x.Tidy → VR (E.ren n0 top pi) x v := by
  have num : ∀ {b b' : Nat}, renN n0 top pi b = some b' → (E.ren n0 top pi).ρ b = E.ρ b' := by
    intro b b' hb; simp [Env.ren, hb]
  have numU : ∀ {b b' : Nat}, renN n0 top pi b = some b' → E.U b' → (E.ren n0 top pi).U b := by
    intro b b' hb hu
    obtain ⟨r, hr⟩ := uj8.1 hu
    exact uj8.2 ⟨r, (num hb).trans hr⟩
  induction h with
  | bool b => intro x hx ht; have e := ug8 hx; simp only at e; subst e; exact .bool b
  | int k n => intro x hx ht; have e := ug8 hx; simp only at e; subst e; exact .int k n
  | str s => intro x hx ht; have e := ug8 hx; simp only at e; subst e; exact .str s
  | nilptr => intro x hx ht; have e := ug8 hx; simp only at e; subst e; exact .nilptr
  | nilfn => intro x hx ht; have e := ug8 hx; simp only at e; subst e; exact .nilfn
  | ptr b off ad hb hv =>
    intro x hx ht
    obtain ⟨b', rfl, hg⟩ := ug8 hx
    exact .ptr b' off ad (numU hg hb) fun r hr => hv r ((num hg).symm.trans hr)
  | rop cells off r base vs hI hc hvv _ =>
    intro x hx ht
    have e := ug8 hx; simp only at e; subst e
    exact ht E _ _ _ (.rop cells off r base vs hI hc hvv)
  | slice sz b off len cap ad cap' hb hv hl hc =>
    intro x hx ht
    obtain ⟨b', rfl, hg⟩ := ug8 hx
    exact .slice sz b' off len cap ad cap' (numU hg hb) (fun r hr => hv r ((num hg).symm.trans hr)) hl hc
  | ro sz xs cap a cap' r o vs h1 h2 h3 h4 h5 h6 _ =>
    intro x hx ht
    have e := ug8 hx; simp only at e; subst e
    exact ht E _ _ _ (.ro sz xs cap a cap' r o vs h1 h2 h3 h4 h5 h6)
  | fn f first captured fs cs h1 h2 _ _ ih1 ih2 =>
    intro x hx ht
    obtain ⟨a, b, rfl, hg1, hg2⟩ := ug8 hx
    obtain ⟨l1, g1⟩ := up2 hg1
    obtain ⟨l2, g2⟩ := up2 hg2
    refine .fn f a b fs cs (by rw [h1, l1]) (by rw [h2, l2]) (fun i x v hi hv => ?_) (fun i x v hi hv => ?_)
    · obtain ⟨y, hy, hxy⟩ := g1 i x hi
      exact ih1 i y v hy hv hxy (ug2 ht.1 i x hi)
    · obtain ⟨y, hy, hxy⟩ := g2 i x hi
      exact ih2 i y v hy hv hxy (ug2 ht.2 i x hi)
  | agg cs vs h1 _ ih =>
    intro x hx ht
    obtain ⟨l, rfl, hg⟩ := ug8 hx
    obtain ⟨l1, g1⟩ := up2 hg
    refine .agg l vs (by rw [h1, l1]) fun i x v hi hv => ?_
    obtain ⟨y, hy, hxy⟩ := g1 i x hi
    exact ih i y v hy hv hxy (ug2 ht i x hi)
  | tup cs vs h1 _ ih =>
    intro x hx ht
    obtain ⟨l, rfl, hg⟩ := ug8 hx
    obtain ⟨l1, g1⟩ := up2 hg
    refine .tup l vs (by rw [h1, l1]) fun i x v hi hv => ?_
    obtain ⟨y, hy, hxy⟩ := g1 i x hi
    exact ih i y v hy hv hxy (ug2 ht i x hi)

section
variable {P : Program}

def swapped (pi : List (Nat × Nat)) : Prop := ∀ b b' c, lookR pi b = some c → lookR pi b' = some c → b = b'

theorem renN_in {n0 top : Nat} {pi : List (Nat × Nat)} {b : Nat} (h : n0 ≤ b ∧ b < top) : renN n0 top pi b = lookR pi b := by
  unfold renN
  have : (Nat.ble n0 b && Nat.blt b top) = true := by simpa using h
  rw [this]

theorem up0 {n0 top : Nat} {pi : List (Nat × Nat)} {b : Nat} (h : ¬ (n0 ≤ b ∧ b < top)) : renN n0 top pi b = some b := by
  unfold renN
  have : (Nat.ble n0 b && Nat.blt b top) = false := by
    cases hh : (Nat.ble n0 b && Nat.blt b top) with
    | false => rfl
    | true => exact absurd (by simpa using hh) h
  rw [this]

theorem renN_inj {n0 top : Nat} {pi : List (Nat × Nat)} (hi : swapped pi) (hr : ∀ b c, lookR pi b = some c → n0 ≤ c ∧ c < top) {b b' c : Nat} (h : renN n0 top pi b = some c) (h' : renN n0 top pi b' = some c) : b = b' := by
  by_cases h1 : n0 ≤ b ∧ b < top <;> by_cases h2 : n0 ≤ b' ∧ b' < top
  · rw [renN_in h1] at h; rw [renN_in h2] at h'; exact hi b b' c h h'
  · rw [renN_in h1] at h; rw [up0 h2] at h'
    cases h'
    exact absurd (hr b _ h) h2
  · rw [up0 h1] at h; rw [renN_in h2] at h'
    cases h
    exact absurd (hr b' _ h') h1
  · rw [up0 h1] at h; rw [up0 h2] at h'
    cases h; cases h'; rfl

/-- what is kept of a state, under new numbers -/
structure Cut (n0 top : Nat) (pi : List (Nat × Nat)) (cs cs' : CS) : Prop where
  inj : swapped pi
  into : ∀ b c, lookR pi b = some c → (n0 ≤ c ∧ c < top) ∧ b < cs.n
  heap : ∀ b blk, hget cs.H b = some blk → b < cs.n ∧ uj6 blk ∧ ∃ b' blk', renN n0 top pi b = some b' ∧ hget cs'.H b' = some blk' ∧ renL (renN n0 top pi) blk = some blk'
  tmps : ∀ t x, tget cs.tm t = some x → x.Tidy ∧ ∃ y, tget cs'.tm t = some y ∧ x.ren (renN n0 top pi) = some y
  n0 : n0 ≤ cs.n

theorem goes_cut {f : FuncId} {N n0 top : Nat} {pi : List (Nat × Nat)} {todo : List Item} {cs cs' : CS} {Q : CV → ua8 → Prop} (hc : Cut n0 top pi cs cs') (h : Goes P f N n0 top todo cs Q) : Goes P f N n0 top todo cs' Q := by
  intro E0 E a b callers h1 h2 h3 h4 h5 h6 h7
  have num : ∀ {b b' : Nat}, renN n0 top pi b = some b' → (E.ren n0 top pi).ρ b = E.ρ b' := by
    intro b b' hb; simp [Env.ren, hb]
  have hinto : ∀ b c, lookR pi b = some c → n0 ≤ c ∧ c < top := fun b c hb => (hc.into b c hb).1
  have out : ∀ b, ¬ (n0 ≤ b ∧ b < top) → renN n0 top pi b = some b := fun b hb => up0 hb
  have old : ∀ b, E0.U b → ¬ (n0 ≤ b ∧ b < top) := fun b hb hr => h3 b hr.1 hr.2 hb
  have some_of : ∀ {b r}, (E.ren n0 top pi).ρ b = some r → ∃ b', renN n0 top pi b = some b' ∧ E.ρ b' = some r := by
    intro b r hb
    simp only [Env.ren, Option.bind_eq_some_iff] at hb
    exact hb
  have hex : Ex E0 (E.ren n0 top pi) := by
    refine ⟨fun b r hr => ?_, fun b hu hl => ?_, h4.I, h4.sz, h4.grow, fun r hr hn => ?_, h4.newI, h4.io⟩
    · rw [num (out b (old b (uj8.2 ⟨r, hr⟩)))]; exact h4.fwd b r hr
    · obtain ⟨b', hb', hl⟩ := hl
      rw [out b (old b hu)] at hb'
      cases hb'
      exact h4.L b hu hl
    · obtain ⟨a1, a2⟩ := h4.out r hr hn
      refine ⟨a1, fun b hl hb => ?_⟩
      obtain ⟨b', hb', hl⟩ := hl
      rw [num hb'] at hb
      exact a2 b' hl hb
  have hub : UB E0 (E.ren n0 top pi) n0 top := by
    intro k hk
    by_cases hr : n0 ≤ k ∧ k < top
    · exact .inr hr
    · obtain ⟨r, hr'⟩ := uj8.1 hk
      rw [num (out k hr)] at hr'
      exact h5 k (uj8.2 ⟨r, hr'⟩)
  have hbase : Base (E.ren n0 top pi) := by
    have hB := h6.heap.base
    refine ⟨fun b b' r l l' hb hb' => ?_, fun b r l hb => ?_, hB.Ilt⟩
    · obtain ⟨c, hc1, l⟩ := l
      obtain ⟨c', hc2, l'⟩ := l'
      rw [num hc1] at hb
      rw [num hc2] at hb'
      have := hB.inj c c' r l l' hb hb'
      subst this
      exact renN_inj hc.inj hinto hc1 hc2
    · obtain ⟨c, hc1, l⟩ := l
      rw [num hc1] at hb
      exact hB.lt c r l hb
  have hrel : Rel N (E.ren n0 top pi) cs a := by
    refine ⟨hbase.hr fun b blk hb => ?_, fun b blk hb => (hc.heap b blk hb).1, fun t x hx => ?_, h6.size, h6.defers⟩
    · obtain ⟨_, ht, b', blk', hb', hg, hr⟩ := hc.heap b blk hb
      obtain ⟨r, hr1, c, el, lo, hi, hcc, hf, hs, hx⟩ := h6.heap.get b' blk' hg
      obtain ⟨l1, l2⟩ := up2 hr
      refine ⟨⟨b', hb', h6.heap.live b' blk' hg⟩, r, (num hb').trans hr1, c, el, lo, hi, hcc, hf, by omega, fun j x v hj hv => ?_⟩
      obtain ⟨y, hy, hxy⟩ := l2 j x hj
      exact vr_ren (hx j y v hy hv) hxy (ug2 ht j x hj)
    · obtain ⟨ht, y, hy, hxy⟩ := hc.tmps t x hx
      exact vr_ren (h6.tmps t y hy) hxy ht
  have hfr : Fr (E.ren n0 top pi) cs.n top := by
    intro k k1 k2 hk
    obtain ⟨r, hr⟩ := uj8.1 hk
    obtain ⟨b', hb', _⟩ := some_of hr
    rw [renN_in ⟨Nat.le_trans hc.n0 k1, k2⟩] at hb'
    have := (hc.into k b' hb').2
    omega
  exact h E0 (E.ren n0 top pi) a b callers h1 h2 h3 hex hub hrel hfr

end
end Go.Cn
end
noncomputable section
namespace Go.Cn

mutual
/-- numbers pushed up by n; what is read-only is left as it is -/
def CV.sh (n : Nat) : CV → CV
  | .ptr b off => .ptr (b + n) off
  | .slice sz b off len cap => .slice sz (b + n) off len cap
  | .agg l => .agg (shL n l)
  | .tup l => .tup (shL n l)
  | .fn f a b => .fn f (shL n a) (shL n b)
  | x => x
def shL (n : Nat) : List CV → List CV
  | [] => []
  | x :: xs => CV.sh n x :: shL n xs
end

def shH (n : Nat) : ua8 → ua8
  | [] => []
  | (b, blk) :: h => (b + n, shL n blk) :: shH n h

mutual
/-- refers to nothing that is read-only -/
def CV.Plain : CV → Prop
  | .agg l => ui5 l
  | .tup l => ui5 l
  | .fn _ a b => ui5 a ∧ ui5 b
  | .rop _ _ => False
  | .ro _ xs _ => xs = []
  | _ => True
def ui5 : List CV → Prop
  | [] => True
  | x :: xs => CV.Plain x ∧ ui5 xs
end

theorem un2 {n : Nat} : ∀ {xs : List CV}, (shL n xs).length = xs.length ∧ ∀ (i : Nat), (shL n xs)[i]? = xs[i]?.map (CV.sh n)
  | [] => by simp [shL]
  | x :: xs => by
    obtain ⟨a1, a2⟩ := un2 (n := n) (xs := xs)
    refine ⟨by simp [shL, a1], fun i => ?_⟩
    cases i with
    | zero => simp [shL]
    | succ i => simpa [shL] using a2 i

theorem plainL_get : ∀ {xs : List CV}, ui5 xs → ∀ (i : Nat) x, xs[i]? = some x → x.Plain
  | [], _, i, x, h => by simp at h
  | y :: xs, ht, i, x, h => by
    cases i with
    | zero => simp at h; subst h; exact ht.1
    | succ i => exact plainL_get ht.2 i x (by simpa using h)

theorem shH_get {n : Nat} : ∀ {H : ua8} {b : Nat} {blk : List CV}, hget (shH n H) b = some blk → ∃ b0 blk0, b = b0 + n ∧ hget H b0 = some blk0 ∧ blk = shL n blk0
  | [], b, blk, h => by simp [shH, uc2] at h
  | (c, x) :: H, b, blk, h => by
    simp only [shH] at h
    rw [ub2] at h
    split at h
    · next e => exact ⟨c, x, e.symm, by rw [ub2, if_pos rfl], (Option.some.inj h).symm⟩
    · next e =>
      obtain ⟨b0, blk0, h1, h2, h3⟩ := shH_get h
      exact ⟨b0, blk0, h1, by rw [ub2, if_neg (fun e' => e (by omega))]; exact h2, h3⟩

/-- the world behind a call that ran on data alone, told from before it: Z: the blocks that were there were read-only meanwhile -/
def Env.thawed (E E1 : Env) (n t : Nat) (Z : Prop) : Env :=
  { ρ := fun b => if n ≤ b ∧ b < n + t then E1.ρ (b - n) else E.ρ b, L := fun b => if n ≤ b ∧ b < n + t then E1.L (b - n) else E.L b,
    I := fun r => E1.I r ∧ ¬ (Z ∧ ∃ b, E.L b ∧ E.ρ b = some r), w := E1.w }

theorem vr_sh {E E1 : Env} {n t : Nat} {Z : Prop} (hU : ∀ k, E1.U k → k < t) {x : CV} {v : Value} (h : VR E1 x v) : x.Tidy → (Z → x.Plain) → VR (E.thawed E1 n t Z) (x.sh n) v := by
  have num : ∀ {b : Nat}, E1.U b → (E.thawed E1 n t Z).ρ (b + n) = E1.ρ b := by
    intro b hb
    have := hU b hb
    simp only [Env.thawed]
    rw [if_pos (by omega), Nat.add_sub_cancel]
  have numU : ∀ {b : Nat}, E1.U b → (E.thawed E1 n t Z).U (b + n) := by
    intro b hb
    obtain ⟨r, hr⟩ := uj8.1 hb
    exact uj8.2 ⟨r, (num hb).trans hr⟩
  have lst : ∀ {xs : List CV} {vs : Array Value}, (∀ (i : Nat) x v, xs[i]? = some x → vs[i]? = some v → x.Tidy → (Z → x.Plain) → VR (E.thawed E1 n t Z) (x.sh n) v) → uj6 xs → (Z → ui5 xs) →
      ∀ (i : Nat) x v, (shL n xs)[i]? = some x → vs[i]? = some v → VR (E.thawed E1 n t Z) x v := by
    intro xs vs h ht hp i x v hx hv
    rw [un2.2 i] at hx
    cases hxi : xs[i]? with
    | none => rw [hxi] at hx; simp at hx
    | some y =>
      rw [hxi] at hx
      simp at hx
      subst hx
      exact h i y v hxi hv (ug2 ht i y hxi) (fun z => plainL_get (hp z) i y hxi)
  induction h with
  | bool b => intro ht hp; exact .bool b
  | int k n => intro ht hp; exact .int k n
  | str s => intro ht hp; exact .str s
  | nilptr => intro ht hp; exact .nilptr
  | nilfn => intro ht hp; exact .nilfn
  | ptr b off ad hb hv => intro ht hp; exact .ptr (b + n) off ad (numU hb) fun r hr => hv r ((num hb).symm.trans hr)
  | rop cells off r base vs hI hc hvv _ =>
    intro ht hp
    by_cases z : Z
    · exact (hp z).elim
    · have := ht E1 (E.thawed E1 n t Z).ρ (E.thawed E1 n t Z).L _ (.rop cells off r base vs hI hc hvv)
      exact this.le ⟨fun _ _ h => h, fun r hr => ⟨⟨hr, fun h => z h.1⟩, rfl⟩, fun _ => Nat.le_refl _⟩
  | slice sz b off len cap ad cap' hb hv hl hc => intro ht hp; exact .slice sz (b + n) off len cap ad cap' (numU hb) (fun r hr => hv r ((num hb).symm.trans hr)) hl hc
  | ro sz xs cap a cap' r o vs h1 h2 h3 h4 h5 h6 _ =>
    intro ht hp
    by_cases z : Z
    · have hnil : xs = [] := hp z
      subst hnil
      exact .ro sz [] cap a cap' r o vs h1 h2 (fun h => absurd rfl h) h4 (fun i j c x hi => by simp at hi) (fun i j c x hi => by simp at hi)
    · have := ht E1 (E.thawed E1 n t Z).ρ (E.thawed E1 n t Z).L _ (.ro sz xs cap a cap' r o vs h1 h2 h3 h4 h5 h6)
      exact this.le ⟨fun _ _ h => h, fun r hr => ⟨⟨hr, fun h => z h.1⟩, rfl⟩, fun _ => Nat.le_refl _⟩
  | fn f first captured fs cs h1 h2 _ _ ih1 ih2 =>
    intro ht hp
    exact .fn f _ _ fs cs (by rw [h1, un2.1]) (by rw [h2, un2.1]) (lst ih1 ht.1 fun z => (hp z).1) (lst ih2 ht.2 fun z => (hp z).2)
  | agg cs vs h1 _ ih => intro ht hp; exact .agg _ vs (by rw [h1, un2.1]) (lst ih ht hp)
  | tup cs vs h1 _ ih => intro ht hp; exact .tup _ vs (by rw [h1, un2.1]) (lst ih ht hp)

section
variable {P : Program}

/-- reads as, once all that lives is given up: with Z; without, what is no number's stays -/
def Reads (Z : Prop) (H : ua8) (y x : CV) : Prop := ∀ (E : Env) (v : Value), HR E H → VR E y v → VR { ρ := fun _ => none, L := fun _ => False, I := fun r => E.I r ∨ (Z ∧ ∃ b, E.L b ∧ E.ρ b = some r), w := E.w } x v

theorem hc_frame {f : FuncId} {args args' : List CV} {t : Nat} {x : CV} {K0 : ua8} (Z : Prop) (h : HC P f args' [] 0 t fun y K => y = x ∧ K = K0) (H : ua8) (n : Nat) (hl : args'.length = args.length)
    (hr : ∀ (i : Nat) y y', args[i]? = some y → args'[i]? = some y' → Reads Z H y y') (ht : x.Tidy) (hp : Z → x.Plain) (htK : ∀ b blk, hget K0 b = some blk → uj6 blk ∧ (Z → ui5 blk)) :
    HC P f args H n (n + t) fun y K => y = x.sh n ∧ K = shH n K0 ++ H := by
  intro E vs hfr hky hH hv
  let E0 : Env := { ρ := fun _ => none, L := fun _ => False, I := fun r => E.I r ∨ (Z ∧ ∃ b, E.L b ∧ E.ρ b = some r), w := E.w }
  have hE0 : HR E0 [] := ⟨fun b blk hb => by simp [uc2] at hb, fun b blk hb => by simp [uc2] at hb, fun b b' r l => l.elim, fun b r l => l.elim, fun r hr => by
    rcases hr with hr | ⟨_, b, l, hb⟩
    · exact hH.Ilt r hr
    · exact (hH.lt b r l hb).2⟩
  have hv0 : VRs E0 args' vs := by
    refine ⟨by rw [hv.1, hl], fun i y' v hy' hv' => ?_⟩
    have hlt : i < args.length := by
      rcases Nat.lt_or_ge i args'.length with h' | h'
      · omega
      · rw [List.getElem?_eq_none h'] at hy'; simp at hy'
    exact hr i args[i] y' (List.getElem?_eq_getElem hlt) hy' E v hH (hv.2 i _ v (List.getElem?_eq_getElem hlt) hv')
  refine (h E0 vs (fun k _ _ hk => hk rfl) (fun b blk hb => by simp [uc2] at hb) hE0 hv0).mono ?_
  rintro e w' ⟨v, y, K, E1, rfl, rfl, hex, hh, hub, hvr, rfl, rfl⟩
  have hU : ∀ k, E1.U k → k < t := fun k hk => by
    rcases hub k hk with g | g
    · exact absurd rfl g
    · exact g.2
  have hout : ∀ r, r < E.w.heap.size → E1.w.heap[r]? = E.w.heap[r]? ∧ ∀ b, E1.L b → E1.ρ b ≠ some r := fun r hr => hex.out r hr (fun b l => l.elim)
  have far : ∀ b, E.U b → ¬ (n ≤ b ∧ b < n + t) := fun b hb hr => hfr b hr.1 hr.2 hb
  have hex' : Ex E (E.thawed E1 n t Z) := by
    refine ⟨fun b r hr => ?_, fun b hu hl => ?_, fun r hI => ⟨⟨(hex.I r (.inl hI)).1, ?_⟩, (hex.I r (.inl hI)).2⟩, hex.sz, hex.grow, fun r hr hn => ⟨(hout r hr).1, fun b hl hb => ?_⟩, fun r hI => ?_, hex.io⟩
    · simp only [Env.thawed]; rw [if_neg (far b (uj8.2 ⟨r, hr⟩))]; exact hr
    · simp only [Env.thawed] at hl; rw [if_neg (far b hu)] at hl; exact hl
    · rintro ⟨_, b, l, hb⟩; exact (hH.lt b r l hb).1 hI
    · simp only [Env.thawed] at hl hb
      split at hl
      · next g => rw [if_pos g] at hb; exact (hout r hr).2 _ hl hb
      · next g => rw [if_neg g] at hb; exact hn b hl hb
    · obtain ⟨h1, h2⟩ := hI
      rcases hex.newI r h1 with g | g | ⟨b, l, _⟩
      · rcases g with g | g
        · exact .inl g
        · exact absurd g h2
      · exact .inr (.inl g)
      · exact l.elim
  have hbase : Base (E.thawed E1 n t Z) := by
    refine ⟨fun b b' r l l' hb hb' => ?_, fun b r l hb => ?_, fun r hI => hh.Ilt r hI.1⟩
    · simp only [Env.thawed] at l l' hb hb'
      split at l <;> split at l'
      · next g g' =>
        rw [if_pos g] at hb; rw [if_pos g'] at hb'
        have := hh.inj _ _ r l l' hb hb'
        omega
      · next g g' =>
        rw [if_pos g] at hb; rw [if_neg g'] at hb'
        exact absurd hb ((hout r (hH.lt b' r l' hb').2).2 _ l)
      · next g g' =>
        rw [if_neg g] at hb; rw [if_pos g'] at hb'
        exact absurd hb' ((hout r (hH.lt b r l hb).2).2 _ l')
      · next g g' =>
        rw [if_neg g] at hb; rw [if_neg g'] at hb'
        exact hH.inj b b' r l l' hb hb'
    · simp only [Env.thawed] at l hb
      split at l
      · next g =>
        rw [if_pos g] at hb
        obtain ⟨a1, a2⟩ := hh.lt _ r l hb
        exact ⟨fun hI => a1 hI.1, a2⟩
      · next g =>
        rw [if_neg g] at hb
        obtain ⟨a1, a2⟩ := hH.lt b r l hb
        refine ⟨fun hI => ?_, Nat.lt_of_lt_of_le a2 hex.grow⟩
        rcases hex.newI r hI.1 with g | g | ⟨c, lc, _⟩
        · rcases g with g | g
          · exact a1 g
          · exact hI.2 g
        · have : E0.w = E.w := rfl
          rw [this] at g; omega
        · exact lc.elim
  refine ⟨v, y.sh n, _, E.thawed E1 n t Z, rfl, rfl, hex', hbase.hr (fun b blk hb => ?_), fun k hk => ?_, vr_sh hU hvr ht hp, rfl, rfl⟩
  · rcases uc3 hb with hb | hb
    · obtain ⟨b0, blk0, rfl, hg, rfl⟩ := shH_get hb
      have hb0 : b0 < t := by
        obtain ⟨r, hr, _⟩ := hh.get b0 blk0 hg
        exact hU b0 (uj8.2 ⟨r, hr⟩)
      obtain ⟨r, hr1, c, el, lo, hi, hcc, hf, hs, hx⟩ := hh.get b0 blk0 hg
      have g : n ≤ b0 + n ∧ b0 + n < n + t := by omega
      refine ⟨?_, r, ?_, c, el, lo, hi, hcc, hf, by rw [un2.1]; exact hs, fun j y v hj hv => ?_⟩
      · simp only [Env.thawed]; rw [if_pos g, Nat.add_sub_cancel]; exact hh.live b0 blk0 hg
      · simp only [Env.thawed]; rw [if_pos g, Nat.add_sub_cancel]; exact hr1
      · rw [un2.2 j] at hj
        cases hxi : blk0[j]? with
        | none => rw [hxi] at hj; simp at hj
        | some y0 =>
          rw [hxi] at hj
          simp at hj
          subst hj
          obtain ⟨k1, k2⟩ := htK b0 blk0 hg
          exact vr_sh hU (hx j y0 v hxi hv) (ug2 k1 j y0 hxi) (fun z => plainL_get (k2 z) j y0 hxi)
    · have hl := hH.live b blk hb
      obtain ⟨r, hr1, c, el, lo, hi, hcc, hf, hs, hx⟩ := hH.get b blk hb
      have g := far b (uj8.2 ⟨r, hr1⟩)
      refine ⟨?_, r, ?_, c, el, lo, hi, (hout r (hH.lt b r hl hr1).2).1.trans hcc, hf, hs, fun j y v hj hv => (hx j y v hj hv).mono hex'⟩
      · simp only [Env.thawed]; rw [if_neg g]; exact hl
      · simp only [Env.thawed]; rw [if_neg g]; exact hr1
  · by_cases g : n ≤ k ∧ k < n + t
    · exact .inr g
    · obtain ⟨r, hr⟩ := uj8.1 hk
      simp only [Env.thawed] at hr
      rw [if_neg g] at hr
      exact .inl (uj8.2 ⟨r, hr⟩)

end
end Go.Cn
end
