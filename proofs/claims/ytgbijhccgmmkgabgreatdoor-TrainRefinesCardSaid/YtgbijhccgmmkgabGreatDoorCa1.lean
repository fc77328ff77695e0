/- The canonical calculus: values and memory. -/
import Derived.Calls
set_option linter.unusedVariables false
set_option linter.unusedSimpArgs false
noncomputable section
namespace Go.Cn

/-- A canonical value. 'ptr', 'slice': into the canonical memory (block, cell). 'rop', 'ro': into memory that nobody writes any more, told by what lies there. -/
inductive CV where
  | bool (b : Bool)
  | int (k : IntKind) (n : Int)
  | str (s : List UInt8)
  | ptr (b off : Nat)
  | nilptr
  | rop (cells : List CV) (off : Nat)
  | slice (sz b off len : Nat) (cap : Option Nat)
  | ro (sz : Nat) (xs : List (List CV)) (cap : Option Nat)
  | fn (f : Fn) (first captured : List CV)
  | nilfn
  | agg (cs : List CV)
  | tup (vs : List CV)
  deriving Inhabited

def CV.cells : CV → List CV
  | .agg cs => cs
  | v => [v]

/-- 'ρ': which block of the world a number stands for; 'L': the numbers whose block is this calculus' own; 'I': blocks of the world that nobody writes any more -/
structure Env where
  ρ : Nat → Option Nat
  L : Nat → Prop
  I : Nat → Prop
  w : World

/-- the numbers in use -/
def Env.U (E : Env) (b : Nat) : Prop := E.ρ b ≠ none

def bsz (w : World) (r : Nat) : Nat := match w.heap[r]? with | some (.cells c _ _) => c.size | _ => 0

inductive VR (E : Env) : CV → Value → Prop where
  | bool (b : Bool) : VR E (.bool b) (.bool b)
  | int (k : IntKind) (n : Int) : VR E (.int k n) (.int k n)
  | str (s : List UInt8) : VR E (.str s) (.string ⟨⟨s⟩⟩)
  | ptr (b off : Nat) (ad : Addr) : E.U b → (∀ r, E.ρ b = some r → ad = ⟨r, off, none⟩) → VR E (.ptr b off) (.pointer (some ad))
  | nilptr : VR E .nilptr (.pointer none)
  | rop (cells : List CV) (off r base : Nat) (vs : Nat → Value) : E.I r → (∀ (j : Nat) x, cells[j]? = some x → E.w.cell? ⟨r, base + j, none⟩ = some (vs j)) →
      (∀ (j : Nat) x, cells[j]? = some x → VR E x (vs j)) → VR E (.rop cells off) (.pointer (some ⟨r, base + off, none⟩))
  | slice (sz b off len : Nat) (cap : Option Nat) (ad : Addr) (cap' : Nat) : E.U b → (∀ r, E.ρ b = some r → ad = ⟨r, off, none⟩ ∧ off + cap' * sz ≤ bsz E.w r) →
      len ≤ cap' → (∀ c, cap = some c → cap' = c) → VR E (.slice sz b off len cap) (.slice (some ad) len cap')
  | ro (sz : Nat) (xs : List (List CV)) (cap : Option Nat) (a : Option Addr) (cap' r o : Nat) (vs : Nat → Nat → Value) : xs.length ≤ cap' → (∀ c, cap = some c → cap' = c) →
      (xs ≠ [] → a = some ⟨r, o, none⟩ ∧ E.I r) → (∀ c ∈ xs, c.length = sz) →
      (∀ (i j : Nat) c x, xs[i]? = some c → c[j]? = some x → E.w.cell? ⟨r, o + i * sz + j, none⟩ = some (vs i j)) →
      (∀ (i j : Nat) c x, xs[i]? = some c → c[j]? = some x → VR E x (vs i j)) → VR E (.ro sz xs cap) (.slice a xs.length cap')
  | fn (f : Fn) (first captured : List CV) (fs cs : Array Value) : fs.size = first.length → cs.size = captured.length →
      (∀ (i : Nat) x v, first[i]? = some x → fs[i]? = some v → VR E x v) → (∀ (i : Nat) x v, captured[i]? = some x → cs[i]? = some v → VR E x v) → VR E (.fn f first captured) (.func f fs cs)
  | nilfn : VR E .nilfn .nilFunc
  | agg (cs : List CV) (vs : Array Value) : vs.size = cs.length → (∀ (i : Nat) x v, cs[i]? = some x → vs[i]? = some v → VR E x v) → VR E (.agg cs) (.agg vs)
  | tup (cs : List CV) (vs : Array Value) : vs.size = cs.length → (∀ (i : Nat) x v, cs[i]? = some x → vs[i]? = some v → VR E x v) → VR E (.tup cs) (.tuple vs)

/-- a list of canonical values, and values -/
def VRs (E : Env) (xs : List CV) (vs : Array Value) : Prop := vs.size = xs.length ∧ ∀ (i : Nat) x v, xs[i]? = some x → vs[i]? = some v → VR E x v

/-- nothing has been read or printed -/
def up6 (w w' : World) : Prop := w'.os = w.os ∧ w'.tape = w.tape ∧ w'.output = w.output
theorem up6.refl (w : World) : up6 w w := ⟨rfl, rfl, rfl⟩
theorem up6.trans {a b c : World} (h : up6 a b) (h' : up6 b c) : up6 a c := ⟨h'.1.trans h.1, h'.2.1.trans h.2.1, h'.2.2.trans h.2.2⟩

structure Ex (E E' : Env) : Prop where
  fwd : ∀ b r, E.ρ b = some r → E'.ρ b = some r
  L : ∀ b, E.U b → E'.L b → E.L b
  I : ∀ r, E.I r → E'.I r ∧ E'.w.heap[r]? = E.w.heap[r]?
  sz : ∀ r, bsz E.w r ≤ bsz E'.w r
  grow : E.w.heap.size ≤ E'.w.heap.size
  out : ∀ r, r < E.w.heap.size → (∀ b, E.L b → E.ρ b ≠ some r) → E'.w.heap[r]? = E.w.heap[r]? ∧ ∀ b, E'.L b → E'.ρ b ≠ some r
  newI : ∀ r, E'.I r → E.I r ∨ E.w.heap.size ≤ r ∨ ∃ b, E.L b ∧ E.ρ b = some r
  io : up6 E.w E'.w

theorem uj8 {E : Env} {b : Nat} : E.U b ↔ ∃ r, E.ρ b = some r := by
  unfold Env.U; cases h : E.ρ b <;> simp

theorem Ex.U {E E' : Env} (h : Ex E E') {b : Nat} (hb : E.U b) : E'.U b := by
  obtain ⟨r, hr⟩ := uj8.1 hb
  exact uj8.2 ⟨r, h.fwd b r hr⟩

theorem Ex.old {E E' : Env} (h : Ex E E') (b r : Nat) (hb : E.U b) (hr : E'.ρ b = some r) : E.ρ b = some r := by
  obtain ⟨r', hr'⟩ := uj8.1 hb
  have := h.fwd b r' hr'
  rw [hr] at this
  cases this; exact hr'

theorem Ex.refl (E : Env) : Ex E E :=
  ⟨fun _ _ h => h, fun _ _ h => h, fun _ h => ⟨h, rfl⟩, fun _ => Nat.le_refl _, Nat.le_refl _, fun _ _ h => ⟨rfl, h⟩, fun _ h => .inl h, .refl _⟩

theorem Ex.trans {E E' E'' : Env} (h : Ex E E') (h' : Ex E' E'') : Ex E E'' where
  fwd b r hr := h'.fwd b r (h.fwd b r hr)
  L b hb hl := h.L b hb (h'.L b (h.U hb) hl)
  I r hr := ⟨(h'.I r (h.I r hr).1).1, (h'.I r (h.I r hr).1).2.trans (h.I r hr).2⟩
  sz r := Nat.le_trans (h.sz r) (h'.sz r)
  grow := Nat.le_trans h.grow h'.grow
  out r hr hn := by
    obtain ⟨h1, h2⟩ := h.out r hr hn
    obtain ⟨h3, h4⟩ := h'.out r (Nat.lt_of_lt_of_le hr h.grow) h2
    exact ⟨h3.trans h1, h4⟩
  io := h.io.trans h'.io
  newI r hr := by
    rcases h'.newI r hr with h1 | h1 | ⟨b, hb, h1⟩
    · exact h.newI r h1
    · exact .inr (.inl (Nat.le_trans h.grow h1))
    · by_cases hs : r < E.w.heap.size
      · by_cases hn : ∃ b, E.L b ∧ E.ρ b = some r
        · exact .inr (.inr hn)
        · exact absurd h1 ((h.out r hs (fun b hb hr => hn ⟨b, hb, hr⟩)).2 b hb)
      · exact .inr (.inl (by omega))

theorem uj3 {w w' : World} {r o : Nat} (h : w'.heap[r]? = w.heap[r]?) : w'.cell? ⟨r, o, none⟩ = w.cell? ⟨r, o, none⟩ := by
  simp only [World.cell?, h]

theorem VR.mono {E E' : Env} {x : CV} {v : Value} (h : VR E x v) (l : Ex E E') : VR E' x v := by
  induction h with
  | bool b => exact .bool b
  | int k n => exact .int k n
  | str s => exact .str s
  | ptr b off ad hb hv => exact .ptr b off ad (l.U hb) fun r hr => hv r (l.old b r hb hr)
  | nilptr => exact .nilptr
  | rop cells off r base vs hI hc _ ih =>
    exact .rop cells off r base vs (l.I r hI).1 (fun j x hj => (uj3 (l.I r hI).2).trans (hc j x hj)) ih
  | slice sz b off len cap ad cap' hb hv hl hc =>
    refine .slice sz b off len cap ad cap' (l.U hb) (fun r hr => ?_) hl hc
    obtain ⟨h1, h4⟩ := hv r (l.old b r hb hr)
    exact ⟨h1, Nat.le_trans h4 (l.sz r)⟩
  | ro sz xs cap a cap' r o vs h1 h2 h3 h4 h5 _ ih =>
    refine .ro sz xs cap a cap' r o vs h1 h2 (fun hx => ⟨(h3 hx).1, (l.I r (h3 hx).2).1⟩) h4 (fun i j c x hi hj => ?_) ih
    have hx : xs ≠ [] := by rintro rfl; simp at hi
    exact (uj3 (l.I r (h3 hx).2).2).trans (h5 i j c x hi hj)
  | fn f first captured fs cs h1 h2 _ _ ih1 ih2 => exact .fn f first captured fs cs h1 h2 ih1 ih2
  | nilfn => exact .nilfn
  | agg cs vs h1 _ ih => exact .agg cs vs h1 ih
  | tup cs vs h1 _ ih => exact .tup cs vs h1 ih

theorem VRs.mono {E E' : Env} {xs : List CV} {vs : Array Value} (h : VRs E xs vs) (l : Ex E E') : VRs E' xs vs :=
  ⟨h.1, fun i x v hx hv => (h.2 i x v hx hv).mono l⟩

/-! ### the memory -/
abbrev ua8 := List (Nat × List CV)

def hget (h : ua8) (k : Nat) : Option (List CV) := List.rec none (fun p _ ih => Bool.rec ih (some p.2) (Nat.beq p.1 k)) h

theorem uc2 (k : Nat) : hget [] k = none := rfl
theorem ub2 (b k : Nat) (x : List CV) (h : ua8) : hget ((b, x) :: h) k = if b = k then some x else hget h k := by
  show (Bool.rec (hget h k) (some x) (Nat.beq b k) : Option (List CV)) = _
  by_cases e : b = k
  · subst e; simp
  · rw [if_neg e]
    have : Nat.beq b k = false := by
      cases h : Nat.beq b k with
      | false => rfl
      | true => exact absurd (Nat.eq_of_beq_eq_true h) e
    rw [this]

def hset : ua8 → Nat → List CV → ua8
  | [], _, _ => []
  | (b, x) :: h, k, y => if Nat.beq b k then (b, y) :: h else (b, x) :: hset h k y

def hdel : ua8 → Nat → ua8
  | [], _ => []
  | (b, x) :: h, k => if Nat.beq b k then hdel h k else (b, x) :: hdel h k

theorem uf2 (h : ua8) (k j : Nat) (y : List CV) : hget (hset h k y) j = if k = j then (hget h j).map (fun _ => y) else hget h j := by
  induction h with
  | nil => simp [uc2, ub2, hset]
  | cons p h ih =>
    obtain ⟨b, x⟩ := p
    simp only [hset]
    by_cases hb : b = k
    · subst hb
      by_cases hj : b = j
      · subst hj; simp [uc2, ub2]
      · simp [uc2, ub2, hj]
    · by_cases hj : b = j
      · subst hj
        have : ¬ k = b := fun h => hb h.symm
        simp [uc2, ub2, hb, this]
      · simp [uc2, ub2, hb, hj, ih]

theorem ug1 (h : ua8) (k j : Nat) : hget (hdel h k) j = if k = j then none else hget h j := by
  induction h with
  | nil => simp [uc2, ub2, hdel]
  | cons p h ih =>
    obtain ⟨b, x⟩ := p
    simp only [hdel]
    by_cases hb : b = k
    · subst hb
      by_cases hj : b = j
      · subst hj; simp [ih]
      · simp [uc2, ub2, hj, ih]
    · by_cases hj : b = j
      · subst hj
        have : ¬ k = b := fun h => hb h.symm
        simp [uc2, ub2, hb, this]
      · simp [uc2, ub2, hb, hj, ih]

/-- a canonical block and the block in the world -/
def BR (E : Env) (blk : List CV) (r : Nat) : Prop :=
  ∃ c elem lo hi, E.w.heap[r]? = some (.cells c elem (lo, hi)) ∧ (hi ≤ lo ∨ c.size ≤ lo) ∧ blk.length ≤ c.size ∧ ∀ (j : Nat) (x : CV) (v : Value), blk[j]? = some x → c[j]? = some v → VR E x v

structure HR (E : Env) (H : ua8) : Prop where
  get : ∀ b blk, hget H b = some blk → ∃ r, E.ρ b = some r ∧ BR E blk r
  live : ∀ b blk, hget H b = some blk → E.L b
  inj : ∀ b b' r, E.L b → E.L b' → E.ρ b = some r → E.ρ b' = some r → b = b'
  lt : ∀ b r, E.L b → E.ρ b = some r → ¬ E.I r ∧ r < E.w.heap.size
  Ilt : ∀ r, E.I r → r < E.w.heap.size

/-! ### the temporaries -/
abbrev CTm := List (Nat × CV)

def tget (h : CTm) (k : Nat) : Option CV := List.rec none (fun p _ ih => Bool.rec ih (some p.2) (Nat.beq p.1 k)) h

theorem uf1 (k : Nat) : tget [] k = none := rfl
theorem uc7 (b k : Nat) (x : CV) (h : CTm) : tget ((b, x) :: h) k = if b = k then some x else tget h k := by
  show (Bool.rec (tget h k) (some x) (Nat.beq b k) : Option CV) = _
  by_cases e : b = k
  · subst e; simp
  · rw [if_neg e]
    have : Nat.beq b k = false := by
      cases h : Nat.beq b k with
      | false => rfl
      | true => exact absurd (Nat.eq_of_beq_eq_true h) e
    rw [this]

structure CS where
  tm : CTm
  H : ua8
  n : Nat

/-- the numbers of blocks lie below n -/
def Keys (H : ua8) (n : Nat) : Prop := ∀ b blk, hget H b = some blk → b < n

structure Rel (N : Nat) (E : Env) (cs : CS) (a : Act) : Prop where
  heap : HR E cs.H
  keys : Keys cs.H cs.n
  tmps : ∀ t x, tget cs.tm t = some x → VR E x (a.tmps.getD t undef)
  size : a.tmps.size = N
  defers : a.defers = []

def cput (tm : CTm) (dst : Option Tmp) (x : CV) : CTm :=
  match dst with
  | some d => (d, x) :: tm
  | none => tm

/-! ### what a new block, a written cell and a forgotten block do -/
def Env.alloc (E : Env) (k : Nat) (o : Obj) : Env :=
  { ρ := fun b => if b = k then some E.w.heap.size else E.ρ b, L := fun b => b = k ∨ E.L b, I := E.I, w := { E.w with heap := E.w.heap.push o } }

theorem uj0 {w : World} {o : Obj} {r : Nat} (h : r < w.heap.size) : (w.heap.push o)[r]? = w.heap[r]? := by
  simp [Array.getElem?_push, Nat.ne_of_lt h]

theorem bsz_push {w : World} {o : Obj} (r : Nat) : bsz w r ≤ bsz { w with heap := w.heap.push o } r := by
  unfold bsz
  by_cases h : r < w.heap.size
  · simp [uj0 h]
  · simp [Array.getElem?_eq_none (Nat.le_of_not_lt h)]

theorem uj4 {E : Env} {H : ua8} {k : Nat} {o : Obj} (h : HR E H) (hk : ¬ E.U k) : Ex E (E.alloc k o) where
  fwd b r hr := by
    have : b ≠ k := fun e => hk (uj8.2 ⟨r, e ▸ hr⟩)
    simpa [Env.alloc, this] using hr
  L b hb hl := by
    rcases hl with rfl | hl
    · exact absurd hb hk
    · exact hl
  I r hr := ⟨hr, uj0 (h.Ilt r hr)⟩
  sz r := bsz_push r
  grow := by simp [Env.alloc]
  out r hr hn := by
    refine ⟨uj0 hr, fun b hl hb => ?_⟩
    simp only [Env.alloc] at hb hl
    split at hb
    · simp at hb; omega
    · next e => exact hn b (hl.resolve_left e) hb
  newI r hr := .inl hr
  io := ⟨rfl, rfl, rfl⟩

theorem alloc_hrF {E : Env} {H : ua8} {k : Nat} {cells : Array Value} {elem : TypeId} {blk : List CV} {lo hi : Nat} (h : HR E H) (hk : ¬ E.U k) (hf : hi ≤ lo ∨ cells.size ≤ lo) (hl : blk.length ≤ cells.size)
    (hv : ∀ (j : Nat) (x : CV) (v : Value), blk[j]? = some x → cells[j]? = some v → VR E x v) : HR (E.alloc k (.cells cells elem (lo, hi))) ((k, blk) :: H) where
  get b bl hb := by
    rw [ub2] at hb
    by_cases hbn : b = k
    · subst hbn
      simp at hb
      subst hb
      refine ⟨E.w.heap.size, by simp [Env.alloc], cells, elem, lo, hi, by simp [Env.alloc], hf, by omega, fun j x v hx hv' => (hv j x v hx hv').mono (uj4 h hk)⟩
    · rw [if_neg (fun e => hbn e.symm)] at hb
      obtain ⟨r, hr, c, el, lo', hi', hc, hf', hs, hx⟩ := h.get b bl hb
      refine ⟨r, by simp [Env.alloc, hbn, hr], c, el, lo', hi', ?_, hf', hs, fun j x v h1 h2 => (hx j x v h1 h2).mono (uj4 h hk)⟩
      exact (uj0 (h.lt b r (h.live b bl hb) hr).2).trans hc
  live b bl hb := by
    rw [ub2] at hb
    by_cases hbn : b = k
    · exact .inl hbn
    · rw [if_neg (fun e => hbn e.symm)] at hb
      exact .inr (h.live b bl hb)
  inj b b' r l l' hb hb' := by
    simp only [Env.alloc] at hb hb' l l'
    split at hb
    · next e =>
      split at hb'
      · next e' => rw [e, e']
      · next e' => simp at hb; exact absurd (h.lt b' r (l'.resolve_left e') hb').2 (by omega)
    · next e =>
      split at hb'
      · simp at hb'; exact absurd (h.lt b r (l.resolve_left e) hb).2 (by omega)
      · next e' => exact h.inj b b' r (l.resolve_left e) (l'.resolve_left e') hb hb'
  lt b r l hb := by
    simp only [Env.alloc] at hb l ⊢
    split at hb
    · simp at hb
      subst hb
      exact ⟨fun hI => absurd (h.Ilt _ hI) (by omega), by simp⟩
    · next e =>
      obtain ⟨h2, h3⟩ := h.lt b r (l.resolve_left e) hb
      exact ⟨h2, by simp; omega⟩
  Ilt r hr := by simp [Env.alloc]; have := h.Ilt r hr; omega

theorem alloc_hr {E : Env} {H : ua8} {k : Nat} {cells : Array Value} {elem : TypeId} {blk : List CV} (h : HR E H) (hk : ¬ E.U k) (hl : blk.length ≤ cells.size)
    (hv : ∀ (j : Nat) (x : CV) (v : Value), blk[j]? = some x → cells[j]? = some v → VR E x v) : HR (E.alloc k (.cells cells elem)) ((k, blk) :: H) :=
  alloc_hrF h hk (.inl (Nat.le_refl _)) hl hv

/-- weaker memory: what is not named any more -/
theorem HR.sub {E : Env} {H H' : ua8} (h : HR E H) (hs : ∀ b blk, hget H' b = some blk → hget H b = some blk) : HR E H' :=
  ⟨fun b blk hb => h.get b blk (hs b blk hb), fun b blk hb => h.live b blk (hs b blk hb), h.inj, h.lt, h.Ilt⟩

/-- which numbers are new -/
def UB (E E' : Env) (n n' : Nat) : Prop := ∀ k, E'.U k → E.U k ∨ (n ≤ k ∧ k < n')

/-- numbers that are not in use -/
def Fr (E : Env) (n n' : Nat) : Prop := ∀ k, n ≤ k → k < n' → ¬ E.U k

theorem UB.refl {E : Env} {n n' : Nat} : UB E E n n' := fun _ h => .inl h

theorem UB.of_eq {E E' : Env} {n n' : Nat} (h : E'.ρ = E.ρ) : UB E E' n n' := fun k hk => .inl (by unfold Env.U at hk ⊢; rw [← h]; exact hk)

theorem UB.trans {E E' E'' : Env} {n m n' : Nat} (h : UB E E' n m) (h' : UB E' E'' m n') (h1 : n ≤ m) (h2 : m ≤ n') : UB E E'' n n' := by
  intro k hk
  rcases h' k hk with h3 | h3
  · rcases h k h3 with h4 | h4
    · exact .inl h4
    · exact .inr ⟨h4.1, by omega⟩
  · exact .inr ⟨by omega, h3.2⟩

theorem Fr.mono {E : Env} {n n' m m' : Nat} (h : Fr E n n') (h1 : n ≤ m) (h2 : m' ≤ n') : Fr E m m' := fun k a b => h k (by omega) (by omega)

theorem Fr.next {E E' : Env} {n m n' : Nat} (h : Fr E n n') (hu : UB E E' n m) (h1 : n ≤ m) : Fr E' m n' := by
  intro k a b hk
  rcases hu k hk with h2 | h2
  · exact h k (by omega) b h2
  · omega

theorem uj1 {E : Env} {k : Nat} {o : Obj} : UB E (E.alloc k o) k (k + 1) := fun x hx => by
  by_cases e : x = k
  · exact .inr ⟨by omega, by omega⟩
  · refine .inl ?_
    simpa [Env.U, Env.alloc, e] using hx

/-! ### one cell is written -/
theorem set_heap {w : World} {r r' o : Nat} {v : Value} (h : r' ≠ r) : (w.setCell ⟨r, o, none⟩ v).heap[r']? = w.heap[r']? := by
  simp only [World.setCell]
  rw [Array.getElem?_modify]
  simp [Ne.symm h]

theorem uk9 {w : World} {r o : Nat} {v : Value} {c : Array Value} {elem : TypeId} {fr : Nat × Nat} (h : w.heap[r]? = some (.cells c elem fr)) :
    (w.setCell ⟨r, o, none⟩ v).heap[r]? = some (.cells (c.setIfInBounds o v) elem fr) := by
  simp only [World.setCell]
  rw [Array.getElem?_modify]
  simp [h]

theorem set_size {w : World} {a : Addr} {v : Value} : (w.setCell a v).heap.size = w.heap.size := by simp [World.setCell]

theorem set_bsz {w : World} {r o : Nat} {v : Value} (r' : Nat) : bsz (w.setCell ⟨r, o, none⟩ v) r' = bsz w r' := by
  unfold bsz
  by_cases h : r' = r
  · subst h
    cases hr : w.heap[r']? with
    | none => simp [World.setCell, Array.getElem?_modify, hr]
    | some ob =>
      cases ob with
      | cells c e f => simp [uk9 hr]
      | _ => simp [World.setCell, Array.getElem?_modify, hr]
  · rw [set_heap h]

def Env.set (E : Env) (r o : Nat) (v : Value) : Env := { E with w := E.w.setCell ⟨r, o, none⟩ v }

theorem set_ex {E : Env} {H : ua8} {b r o : Nat} {v : Value} (h : HR E H) (hl : E.L b) (hb : E.ρ b = some r) : Ex E (E.set r o v) where
  fwd _ _ hr := hr
  L _ _ hl := hl
  I r' hr := ⟨hr, set_heap (fun e => (h.lt b r hl hb).1 (e ▸ hr))⟩
  sz r' := Nat.le_of_eq (set_bsz r').symm
  grow := by simp [Env.set, set_size]
  out r' hr hn := ⟨set_heap (fun e => hn b hl (e ▸ hb)), hn⟩
  newI _ hr := .inl hr
  io := ⟨rfl, rfl, rfl⟩

theorem set_hr {E : Env} {H : ua8} {b r o : Nat} {blk : List CV} {x : CV} {v : Value} (h : HR E H) (hg : hget H b = some blk) (hb : E.ρ b = some r) (ho : o < blk.length)
    (hv : VR E x v) : HR (E.set r o v) (hset H b (blk.set o x)) where
  get b' bl hb' := by
    have hlv := h.live b blk hg
    rw [uf2] at hb'
    by_cases e : b = b'
    · subst e
      simp only [if_true, hg, Option.map_some, Option.some.injEq] at hb'
      subst hb'
      obtain ⟨r0, hr0, c, el, lo, hi, hc, hf, hs, hx⟩ := h.get b blk hg
      obtain rfl : r0 = r := by rw [hb] at hr0; exact (Option.some.inj hr0).symm
      refine ⟨r0, hb, c.setIfInBounds o v, el, lo, hi, uk9 hc, by simpa using hf, by simpa using hs, fun j y u hj hu => ?_⟩
      refine VR.mono ?_ (set_ex (o := o) (v := v) h hlv hb)
      by_cases e : o = j
      · subst e
        rw [List.getElem?_set_self ho] at hj
        rw [Array.getElem?_setIfInBounds_self_of_lt (by omega)] at hu
        cases hj; cases hu; exact hv
      · rw [List.getElem?_set_ne e] at hj
        rw [Array.getElem?_setIfInBounds_ne e] at hu
        exact hx j y u hj hu
    · simp only [e, if_false] at hb'
      obtain ⟨r0, hr0, c, el, lo, hi, hc, hf, hs, hx⟩ := h.get b' bl hb'
      refine ⟨r0, hr0, c, el, lo, hi, ?_, hf, hs, fun j y u hj hu => (hx j y u hj hu).mono (set_ex h hlv hb)⟩
      have hne : r0 ≠ r := fun e' => e (h.inj b b' r hlv (h.live b' bl hb') hb (by rw [hr0, e']))
      exact (set_heap hne).trans hc
  live b' bl hb' := by
    rw [uf2] at hb'
    split at hb'
    · next e => subst e; exact h.live b blk hg
    · exact h.live b' bl hb'
  inj := h.inj
  lt b' r' l' hb' := by
    obtain ⟨h2, h3⟩ := h.lt b' r' l' hb'
    exact ⟨h2, by simpa [Env.set, set_size] using h3⟩
  Ilt r' hr := by simpa [Env.set, set_size] using h.Ilt r' hr

end Go.Cn
end
