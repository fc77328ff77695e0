/- The canonical calculus: runs of regions, told by what is known of each operation. -/
import Derived.Test.YteokapmkfoogaaaGreatDoorCn22
set_option linter.unusedVariables false
set_option linter.unusedSimpArgs false
noncomputable section
namespace Go.Cn

section
variable {P : Program}

def noCall : Call := fun _ _ _ _ _ => none
theorem noCall_sound : Sound P noCall := fun f args H n lo x H' n' h => by simp [noCall] at h

/-- a region in its written order -/
inductive PRun (P : Program) (N : Nat) (ops : Array Oper) : List Oper → CS → CS → Prop where
  | nil (cs : CS) : PRun P N ops [] cs cs
  | skip {o : Oper} {rest : List Oper} {cs cs' : CS} : isSmall N o.dst = true → cwanted ops cs.tm o.guard = some false → PRun P N ops rest ⟨cput cs.tm o.dst (.tup []), cs.H, cs.n⟩ cs' → PRun P N ops (o :: rest) cs cs'
  | op {o : Oper} {rest : List Oper} {cs cs' : CS} {x : CV} {H : CHeap} {n : Nat} : isSmall N o.dst = true → cwanted ops cs.tm o.guard = some true → OpOk P o cs.tm cs.H cs.n 0 x H n →
      PRun P N ops rest ⟨cput cs.tm o.dst x, H, n⟩ cs' → PRun P N ops (o :: rest) cs cs'
  | learn {rest : List Oper} {cs cs' : CS} {tm : CTm} : (∀ t, tget tm t = tget cs.tm t) → PRun P N ops rest ⟨tm, cs.H, cs.n⟩ cs' → PRun P N ops rest cs cs'

theorem prun_keeps {N : Nat} {ops : Array Oper} {rest : List Oper} {cs cs' : CS} (h : PRun P N ops rest cs cs') : Keeps cs.H cs'.H cs.n cs'.n 0 := by
  induction h with
  | nil cs => exact .refl
  | skip h1 h2 h3 ih => exact ih
  | op h1 h2 h3 h4 ih => exact h3.1.trans ih
  | learn h1 h2 ih => exact ih

theorem prun_sound {N : Nat} {ops : Array Oper} {rest : List Oper} {cs cs' : CS} (h : PRun P N ops rest cs cs') : ∀ (k : Nat) (E : Env) (a : Act), ops.toList.drop k = rest → Rel N E cs a →
    Fr E cs.n cs'.n → ∀ (Q : Exit → Act → World → Prop), LetsGo Q → (∀ E' a', Ex E E' → UB E E' cs.n cs'.n → Rel N E' cs' a' → Q .normal a' E'.w) → wpOps P ops Q (List.range' k rest.length) a E.w := by
  induction h with
  | nil cs =>
    intro k E a hd hR hfr Q hL hK
    simp only [List.length_nil, List.range'_zero, wpOps]
    exact hK E a (.refl E) .refl hR
  | skip hsm hw h3 ih =>
    rename_i o rest cs cs'
    intro k E a hd hR hfr Q hL hK
    have ho : ops[k]? = some o := by
      have : (ops.toList.drop k)[0]? = some o := by rw [hd]; rfl
      rw [List.getElem?_drop] at this
      simpa using this
    have hd' : ops.toList.drop (k + 1) = rest := by
      have : (ops.toList.drop k).drop 1 = rest := by rw [hd]; rfl
      rw [List.drop_drop] at this
      exact this
    have hsm : isSmall a.tmps.size o.dst = true := by rw [hR.size]; exact hsm
    rw [List.length_cons, List.range'_succ]
    simp only [wpOps, ho]
    rw [if_neg (by rw [cwanted_sound hR.tmps hw]; simp)]
    exact ih (k + 1) E (a.put o.dst undef) hd' ⟨hR.heap, hR.keys, tr_put hR.tmps hsm vr_undef, by rw [put_size]; exact hR.size, by rw [put_defers]; exact hR.defers⟩ hfr Q hL hK
  | op hsm hw hop h4 ih =>
    rename_i o rest cs cs' x H n
    intro k E a hd hR hfr Q hL hK
    have ho : ops[k]? = some o := by
      have : (ops.toList.drop k)[0]? = some o := by rw [hd]; rfl
      rw [List.getElem?_drop] at this
      simpa using this
    have hd' : ops.toList.drop (k + 1) = rest := by
      have : (ops.toList.drop k).drop 1 = rest := by rw [hd]; rfl
      rw [List.drop_drop] at this
      exact this
    have hsm : isSmall a.tmps.size o.dst = true := by rw [hR.size]; exact hsm
    rw [List.length_cons, List.range'_succ]
    simp only [wpOps, ho]
    rw [if_pos (cwanted_sound hR.tmps hw)]
    have hk1 := hop.1
    have hk2 := prun_keeps h4
    refine .inl (hop.2 E a hR.heap hR.keys hR.tmps (hfr.mono (Nat.le_refl _) hk2.1) _ Q hL fun E' v hex hh hub hv => ?_)
    exact ih (k + 1) E' (a.put o.dst v) hd' ⟨hh, hk1.2.2 hR.keys, tr_put (fun t y hy => (hR.tmps t y hy).mono hex) hsm hv, by rw [put_size]; exact hR.size, by rw [put_defers]; exact hR.defers⟩
      (hfr.next hub hk1.1) Q hL fun E'' a' hex' hub' hR' => hK E'' a' (hex.trans hex') (hub.trans hub' hk1.1 hk2.1) hR'
  | learn h1 h2 ih =>
    intro k E a hd hR hfr Q hL hK
    exact ih k E a hd ⟨hR.heap, hR.keys, fun t x hx => hR.tmps t x (by rw [← h1 t]; exact hx), hR.size, hR.defers⟩ hfr Q hL hK

theorem prun_takes {N id : Nat} {ops : Array Oper} {cs cs' : CS} (h : PRun P N ops ops.toList cs cs') : Takes P N (.region id ops false) cs cs' := by
  refine ⟨(prun_keeps h).1, fun E a Q hR hfr hL hK => wp_region ?_⟩
  have := prun_sound h 0 E a rfl hR hfr Q hL hK
  rwa [List.range_eq_range', ← Array.length_toList]

/-- a region whose order Go leaves open, in its written order -/
inductive DRun (P : Program) (N : Nat) (ops : Array Oper) : List Oper → List Nat → Nat → DS → DS → Prop where
  | nil {ms : List Nat} {i : Nat} (s : DS) : DRun P N ops [] ms i s s
  | step {o : Oper} {r : List Oper} {m : Nat} {ms : List Nat} {i k : Nat} {s s1 s' : DS} : isSmall N o.dst = true → DK P 0 ops m i o s k s1 → DRun P N ops r ms (i + 1) s1 s' → DRun P N ops (o :: r) (m :: ms) i s s'

theorem drun_trace {N : Nat} {ops : Array Oper} {rest : List Oper} {ms : List Nat} {i : Nat} {s s' : DS} (h : DRun P N ops rest ms i s s') :
    ∃ (D : Nat → DS) (K : Nat → Nat), D i = s ∧ D (i + rest.length) = s' ∧ ∀ k o, rest[k]? = some o → isSmall N o.dst = true ∧ DK P 0 ops (ms.getD k 0) (i + k) o (D (i + k)) (K (i + k)) (D (i + k + 1)) := by
  induction h with
  | nil s => exact ⟨fun _ => s, fun _ => 0, rfl, rfl, fun k o ho => by simp at ho⟩
  | step hs hk h ih =>
    rename_i o rest m ms i kk s s1 s'
    obtain ⟨D, K, d1, d2, d3⟩ := ih
    refine ⟨fun j => if j = i then s else D j, fun j => if j = i then kk else K j, by simp, ?_, fun k' o' ho => ?_⟩
    · have : i + (o :: rest).length ≠ i := by simp
      dsimp only
      rw [if_neg this, ← d2]
      congr 1
      simp; omega
    · cases k' with
      | zero =>
        simp at ho; subst ho
        refine ⟨hs, ?_⟩
        simp only [Nat.add_zero, if_true, List.getD_cons_zero]
        rw [if_neg (by omega), d1]
        exact hk
      | succ k' =>
        have := d3 k' o' (by simpa using ho)
        dsimp only
        rw [if_neg (by omega), if_neg (by omega), if_neg (by omega)]
        rw [show i + (k' + 1) = i + 1 + k' by omega]
        simpa using this

theorem drun_keeps {N : Nat} {ops : Array Oper} {rest : List Oper} {ms : List Nat} {i : Nat} {s s' : DS} (h : DRun P N ops rest ms i s s') : s.n ≤ s'.n := by
  induction h with
  | nil s => exact Nat.le_refl _
  | step hs hk h ih => exact Nat.le_trans (dstep_keeps (call := noCall) noCall_sound hk).1 ih

/-- what the region asks of its own text -/
def drawOk (P : Program) (ops : Array Oper) : Bool := P.follows .mixedOrders && tmpOk ops.toList ops (bits ops) && edgesOk ops

theorem drun_takes {N id : Nat} {ops : Array Oper} {cs : CS} {s : DS} (hc : drawOk P ops = true) (hd : DRun P N ops ops.toList (bits ops) 0 ⟨cs.tm, cs.H, [], cs.n, [], [], []⟩ s) (hkeys : Keys cs.H cs.n) :
    Takes P N (.region id ops true) cs ⟨s.tm, allF s.F ++ s.B, s.n⟩ := by
  unfold drawOk at hc
  simp only [Bool.and_eq_true] at hc
  obtain ⟨⟨hm, hok⟩, hed⟩ := hc
  obtain ⟨D, K, d1, d2, d3⟩ := drun_trace hd
  rw [Nat.zero_add, Array.length_toList] at d2
  have hT : Trace P N 0 ops D K := by
    refine ⟨fun i hi => ?_, by rw [d1], by rw [d1], by rw [d1], by rw [d1]; exact hkeys⟩
    have := d3 i ops[i] (by simp [hi])
    rw [Nat.zero_add] at this
    exact ⟨ops[i], Array.getElem?_eq_getElem hi, this⟩
  have hle := hT.n_mono (call := noCall) noCall_sound (i := 0) (k := ops.size) (by omega) (Nat.le_refl _)
  rw [d1, d2] at hle
  refine ⟨hle, fun E a Q hR hfr hL hK => wp_region_any hm ?_⟩
  have hlsz : (Array.replicate ops.size false).size = ops.size := by simp
  have hnl : ∀ i, ¬ Lst (Array.replicate ops.size false) i := by
    intro i h
    unfold Lst at h
    rw [Array.getD_eq_getD_getElem?, Array.getElem?_replicate] at h
    split at h <;> simp at h
  refine wpAny_of (call := noCall) noCall_sound hT hok hed (E0 := E) (by rw [d1, d2]; exact hfr) hL (fun E' a' hex hub hR' => hK E' a' hex (by rw [d1, d2] at hub; exact hub) (by rw [d2] at hR'; exact hR')) ops.size _ E.draw a 0 ?_ ?_ ?_
  · refine ⟨hlsz, fun i hi => absurd hi (hnl i), draw_ex E, fun k hk => .inl hk, fun t k hk h1 h2 x hx => ?_, hR.size, hR.defers⟩
    have hsame := hT.tm_same (t := t) (i := 0) (k := k) (by omega) hk (fun j o a1 a2 hoj hdj => hnl j (h1 j o a2 hoj hdj))
    rw [hsame, d1] at hx
    exact (hR.tmps t x hx).mono (draw_ex E)
  · refine ⟨Nat.zero_le _, fun j hj hk => ⟨fun h => absurd h (hnl j), fun h => by omega⟩, .inl rfl, fun j hj => by omega, (draw_hr hR.heap).base, fun b blk hb => ?_, fun j hj hl => absurd hl (hnl j)⟩
    rw [d1] at hb
    exact (draw_hr hR.heap).good hb
  · have := List.countP_le_length (p := fun i => !(Array.replicate ops.size false).getD i true) (l := List.range ops.size)
    simpa using this

/-- one step of the machine, by a piece of code -/
theorem goes_takes' {f : FuncId} {N n0 top : Nat} {c : Code} {k : List Item} {cs cs' : CS} {Q : CV → CHeap → Prop} (hc : Keys cs.H cs.n → Takes P N c cs cs') (hn : n0 ≤ cs.n) (ht : cs'.n ≤ top) (h : Goes P f N n0 top k cs' Q) :
    Goes P f N n0 top (.code c :: k) cs Q := by
  intro E0 E a b callers h1 h2 h3 h4 h5 h6 h7
  exact goes_takes (hc h6.keys) hn ht h E0 E a b callers h1 h2 h3 h4 h5 h6 h7

/-! ### a call by what is proved of the function -/
def CallIs (P : Program) (g : FuncId) (args : List CV) (H : CHeap) (n lo : Nat) (x : CV) (H' : CHeap) (n' : Nat) : Prop :=
  enterable P g ∧ Keeps H H' n n' lo ∧ HC P g args H n n' fun y K => y = x ∧ K = H'

open Classical in
def oneCall (g : FuncId) (args : List CV) (H : CHeap) (n lo : Nat) (x : CV) (H' : CHeap) (n' : Nat) : Call := fun g' args' H0 n0 lo0 =>
  if g' = g ∧ args' = args ∧ H0 = H ∧ n0 = n ∧ lo0 = lo then some (x, H', n') else none

theorem oneCall_sound {g : FuncId} {args : List CV} {H : CHeap} {n lo : Nat} {x : CV} {H' : CHeap} {n' : Nat} (h : CallIs P g args H n lo x H' n') : Sound P (oneCall g args H n lo x H' n') := by
  intro f as H0 n0 lo0 y K m hc
  unfold oneCall at hc
  split at hc <;> simp only [Option.some.injEq, Prod.mk.injEq, reduceCtorEq] at hc
  next e =>
  obtain ⟨rfl, rfl, rfl, rfl, rfl⟩ := e
  obtain ⟨rfl, rfl, rfl⟩ := hc
  exact h

theorem oneCall_at (g : FuncId) (args : List CV) (H : CHeap) (n lo : Nat) (x : CV) (H' : CHeap) (n' : Nat) : oneCall g args H n lo x H' n' g args H n lo = some (x, H', n') := by
  unfold oneCall; rw [if_pos ⟨rfl, rfl, rfl, rfl, rfl⟩]

/-! ### what an operation comes to, told -/
/-- an operation that only reads comes to x -/
def ValIs (P : Program) (op : Op) (tm : CTm) (H : CHeap) (x : CV) : Prop :=
  match op with
  | .indexAddr t a i => (match cval tm a with | some va => (match cval tm i with | some vi => cindexAddr P t va vi = some x | none => False) | none => False)
  | .index t a i => (match cval tm a with | some va => (match cval tm i with | some vi => cindex P t va vi = some x | none => False) | none => False)
  | .load t a => (match cval tm a with
    | some (.ptr b off) => (match hget H b with | some blk => cpart P t blk off = some x | none => False)
    | some (.rop cells off) => cpart P t cells off = some x
    | _ => False)
  | .slice t a lo hi mx => (match cval tm a with | some va => (match optVal tm lo with | some l => (match optVal tm hi with | some h => (match optVal tm mx with | some m => cslice P t va l h m H = some x | none => False) | none => False) | none => False) | none => False)
  | .binOp op t a b c => (match cval tm a with | some va => (match cval tm b with | some vb => cbin P op t va vb = some x | none => False) | none => False)
  | .call c => (match cvals tm c.args.toList with
    | some args => (match c.callee with
      | .builtin .len => (match args with | [v] => clen P c.argTypes v = some x | _ => False)
      | _ => False)
    | none => False)
  | _ => False

theorem valIs_cop {op : Op} {tm : CTm} {H : CHeap} {x : CV} {n lo : Nat} (h : ValIs P op tm H x) : cop P noCall op tm H n lo = some (x, H, n) := by
  unfold ValIs at h
  split at h
  · split at h <;> try exact h.elim
    rename_i h1
    split at h <;> try exact h.elim
    rename_i h2
    simp only [cop, h1, h2, h]
  · split at h <;> try exact h.elim
    rename_i h1
    split at h <;> try exact h.elim
    rename_i h2
    simp only [cop, h1, h2, h]
  · split at h <;> try exact h.elim
    · rename_i h1
      split at h <;> try exact h.elim
      rename_i h2
      simp only [cop, h1, cload, h2, h]
    · rename_i h1
      simp only [cop, h1, cload, h]
  · split at h <;> try exact h.elim
    rename_i h1
    split at h <;> try exact h.elim
    rename_i h2
    split at h <;> try exact h.elim
    rename_i h3
    split at h <;> try exact h.elim
    rename_i h4
    simp only [cop, h1, h2, h3, h4, h]
  · split at h <;> try exact h.elim
    rename_i h1
    split at h <;> try exact h.elim
    rename_i h2
    simp only [cop, h1, h2, h]
  · split at h <;> try exact h.elim
    rename_i h1
    split at h <;> try exact h.elim
    rename_i h2
    split at h <;> try exact h.elim
    simp only [cop, ccall, h1, h2, h]
  · exact h.elim

/-- a written row of cells -/
def StoreIs (lo b off s : Nat) (blk : List CV) (v : CV) (blk' : List CV) : Prop :=
  lo ≤ b ∧ v.cells.length = s ∧ off + s ≤ blk.length ∧ v.cells.all Scalar = true ∧ putCells blk off v.cells = blk'

/-- an operation that writes or makes memory comes to x, H', n' -/
def MemIs (P : Program) (op : Op) (tm : CTm) (H : CHeap) (n lo : Nat) (x : CV) (H' : CHeap) (n' : Nat) : Prop :=
  match op with
  | .store t a v => (match cval tm a with
    | some (.ptr b off) => (match cval tm v with
      | some vv => (match tsize P t with
        | some s => (match hget H b with
          | some blk => (match hget H' b with
            | some blk' => StoreIs lo b off s blk vv blk' ∧ x = .tup [] ∧ H' = hset H b blk' ∧ n' = n
            | none => False)
          | none => False)
        | none => False)
      | none => False)
    | _ => False)
  | .convert s d a => (match cval tm a with | some va => cconvert P s d va H n = some (x, H', n') | none => False)
  | .makeSlice t l c => (match cval tm l with | some vl => (match cval tm c with | some vc => cmakeSlice P t vl vc H n = some (x, H', n') | none => False) | none => False)
  | .call c => (match cvals tm c.args.toList with
    | some args => (match c.callee with
      | .value f => (match cval tm f with
        | some (.fn (.func g) first captured) => CallIs P g (first ++ args ++ captured) H n lo x H' n'
        | _ => False)
      | .builtin .append => (match args with | [s, y] => cappend P c.argTypes s y H n lo = some (x, H', n') | _ => False)
      | .builtin .copy => (match args with | [s, y] => ccopy P c.argTypes s y H n lo = some (x, H', n') | _ => False)
      | _ => False)
    | none => False)
  | _ => False

theorem memIs_ok {o : Oper} {tm : CTm} {H H' : CHeap} {n n' lo : Nat} {x : CV} (h : MemIs P o.op tm H n lo x H' n') : OpOk P o tm H n lo x H' n' := by
  unfold MemIs at h
  split at h
  · next t a v ho =>
    split at h <;> try exact h.elim
    rename_i b off h1
    split at h <;> try exact h.elim
    rename_i vv h2
    split at h <;> try exact h.elim
    rename_i s h3
    split at h <;> try exact h.elim
    rename_i blk h4
    split at h <;> try exact h.elim
    rename_i blk' h5
    obtain ⟨⟨g1, g2, g3, g4, g5⟩, rfl, h6, rfl⟩ := h
    refine opOk_of (call := noCall) noCall_sound ?_
    simp only [ho, cop, h1, h2, h3, h4]
    rw [if_pos, g5, h6]
    simp only [Bool.and_eq_true]
    exact ⟨⟨⟨Nat.ble_eq_true_of_le g1, by rw [g2]; exact Nat.beq_refl s⟩, Nat.ble_eq_true_of_le g3⟩, g4⟩
  · next s d a ho =>
    split at h <;> try exact h.elim
    rename_i h1
    refine opOk_of (call := noCall) noCall_sound ?_
    simp only [ho, cop, h1, h]
  · next t l c ho =>
    split at h <;> try exact h.elim
    rename_i h1
    split at h <;> try exact h.elim
    rename_i h2
    refine opOk_of (call := noCall) noCall_sound ?_
    simp only [ho, cop, h1, h2, h]
  · next c ho =>
    split at h <;> try exact h.elim
    rename_i args h1
    split at h
    · next f hf =>
      split at h <;> try exact h.elim
      rename_i g first captured hg
      refine opOk_of (oneCall_sound h) ?_
      simp only [ho, cop, ccall, h1, hf, hg, oneCall_at]
    · next hf =>
      split at h <;> try exact h.elim
      refine opOk_of (call := noCall) noCall_sound ?_
      simp only [ho, cop, ccall, h1, hf, h]
    · next hf =>
      split at h <;> try exact h.elim
      refine opOk_of (call := noCall) noCall_sound ?_
      simp only [ho, cop, ccall, h1, hf, h]
    · exact h.elim
  · exact h.elim


/-- a store: the block as it is behind it -/
def StoIs (P : Program) (op : Op) (tm : CTm) (H : CHeap) (lo : Nat) (blk' : List CV) (K : Nat → Prop) : Prop :=
  match op with
  | .store t a v => (match cval tm a with
    | some (.ptr b off) => (match cval tm v with
      | some vv => (match tsize P t with
        | some s => (match hget H b with
          | some blk => StoreIs lo b off s blk vv blk' ∧ K b
          | none => False)
        | none => False)
      | none => False)
    | _ => False)
  | _ => False

theorem stoIs_ok {o : Oper} {tm : CTm} {H : CHeap} {n lo : Nat} {blk' : List CV} {K : Nat → Prop} (h : StoIs P o.op tm H lo blk' K) : ∃ b, OpOk P o tm H n lo (.tup []) (hset H b blk') n ∧ K b := by
  unfold StoIs at h
  split at h <;> try exact h.elim
  next t a v ho =>
  split at h <;> try exact h.elim
  rename_i b off h1
  split at h <;> try exact h.elim
  rename_i vv h2
  split at h <;> try exact h.elim
  rename_i s h3
  split at h <;> try exact h.elim
  rename_i blk h4
  obtain ⟨⟨g1, g2, g3, g4, g5⟩, hK⟩ := h
  refine ⟨b, opOk_of (call := noCall) noCall_sound ?_, hK⟩
  simp only [ho, cop, h1, h2, h3, h4]
  rw [if_pos, g5]
  simp only [Bool.and_eq_true]
  exact ⟨⟨⟨Nat.ble_eq_true_of_le g1, by rw [g2]; exact Nat.beq_refl s⟩, Nat.ble_eq_true_of_le g3⟩, g4⟩

/-- what an append to a slice of one's own asks -/
structure AppLive (z : List CV) (noz : Bool) (ssz sz ysz by' lo b off len0 k : Nat) (b0 cells : List CV) (len : Nat) (blk : List CV) : Prop where
  hz : z.length = sz
  hnoz : noz = true
  hssz : ssz = sz
  hysz : ysz = sz
  hby1 : 1 ≤ by'
  hby2 : by' < 4294967296
  hoff : off = 0
  hk : 1 ≤ k
  hlo : lo ≤ b
  hgrow : (len0 + k) * by' ≤ growBytes
  hhave0 : len0 * sz ≤ b0.length
  hscal : cells.all Scalar = true
  hblk : b0.take (len0 * sz) ++ cells = blk
  hlen : len0 + k = len

/-- what an append to nil asks -/
structure AppNil (z : List CV) (noz : Bool) (sz ysz by' k : Nat) (cells : List CV) (len : Nat) (blk : List CV) : Prop where
  hz : z.length = sz
  hnoz : noz = true
  hysz : ysz = sz
  hby1 : 1 ≤ by'
  hby2 : by' < 4294967296
  hk : 1 ≤ k
  hgrow : k * by' ≤ growBytes
  hblk : cells = blk
  hlen : k = len

/-- an append: the new length, the new block; K: the element's size, the memory behind the new block -/
def AppIs (P : Program) (op : Op) (tm : CTm) (H : CHeap) (lo len : Nat) (blk : List CV) (K : Nat → CHeap → Prop) : Prop :=
  match op with
  | .call c => (match c.callee with
    | .builtin .append => (match cvals tm c.args.toList with
      | some [s, y] => (match c.argTypes[0]? with
        | some sT => (match P.underlying sT with
          | some (.slice e) => (match tsize P e with
            | some sz => (match tbytes P e with
              | some by' => (match celems H y with
                | some (ysz, k, cells) => (match czero P e with
                  | some z => (match s with
                    | .slice ssz b off len0 none => (match hget H b with
                      | some b0 => AppLive z (noZeros P c.argTypes[1]?) ssz sz ysz by' lo b off len0 k b0 cells len blk ∧ K sz (hdel H b)
                      | none => False)
                    | .ro ssz [] (some 0) => AppNil z (noZeros P c.argTypes[1]?) sz ysz by' k cells len blk ∧ K sz H
                    | _ => False)
                  | none => False)
                | none => False)
              | none => False)
            | none => False)
          | _ => False)
        | none => False)
      | _ => False)
    | _ => False)
  | _ => False

theorem appIs_ok {o : Oper} {tm : CTm} {H : CHeap} {n lo len : Nat} {blk : List CV} {K : Nat → CHeap → Prop} (h : AppIs P o.op tm H lo len blk K) : ∃ sz H1, OpOk P o tm H n lo (.slice sz n 0 len none) ((n, blk) :: H1) (n + 1) ∧ K sz H1 := by
  unfold AppIs at h
  split at h <;> try exact h.elim
  next c ho =>
  split at h <;> try exact h.elim
  rename_i hcal
  split at h <;> try exact h.elim
  rename_i s y hargs
  split at h <;> try exact h.elim
  rename_i sT hsT
  split at h <;> try exact h.elim
  rename_i e he
  split at h <;> try exact h.elim
  rename_i sz hsz
  split at h <;> try exact h.elim
  rename_i by' hby
  split at h <;> try exact h.elim
  rename_i ysz k cells hy
  split at h <;> try exact h.elim
  rename_i z hz
  split at h
  · rename_i ssz b off len0
    split at h <;> try exact h.elim
    rename_i b0 hb
    obtain ⟨g, hK⟩ := h
    have hl := g.hlen
    subst hl
    have hb2 := g.hblk
    subst hb2
    refine ⟨sz, hdel H b, opOk_of (call := noCall) noCall_sound ?_, hK⟩
    simp only [ho, cop, ccall, hargs, hcal, cappend, hsT, he, hsz, hby, hy, hz]
    have e1 : Nat.beq z.length sz = true := by rw [g.hz]; exact Nat.beq_refl sz
    have e2 : Nat.beq k 0 = false := by have := g.hk; cases k with | zero => omega | succ k => rfl
    have e3 : Nat.beq ysz sz = true := by rw [g.hysz]; exact Nat.beq_refl sz
    have e4 : Nat.beq ssz sz = true := by rw [g.hssz]; exact Nat.beq_refl sz
    have e5 : (Nat.beq by' 0 || Nat.ble 4294967296 by') = false := by
      have h1 := g.hby1; have h2 := g.hby2
      rw [Bool.or_eq_false_iff]
      refine ⟨by cases by' with | zero => omega | succ k => rfl, ?_⟩
      cases hh : Nat.ble 4294967296 by' with
      | false => rfl
      | true => have := Nat.le_of_ble_eq_true hh; omega
    have e6 : Nat.ble ((len0 + k) * by') growBytes = true := Nat.ble_eq_true_of_le g.hgrow
    have e7 : Nat.ble lo b = true := Nat.ble_eq_true_of_le g.hlo
    have e8 : Nat.ble (len0 * sz) b0.length = true := Nat.ble_eq_true_of_le g.hhave0
    have e9 : off = 0 := g.hoff
    subst e9
    simp only [e1, g.hnoz, e2, e3, e4, e5, e6, e7, e8, hb, g.hscal, Bool.not_true, Bool.or_self, Bool.false_eq_true, if_false, Bool.and_self, if_true, show Nat.beq 0 0 = true from rfl]
  · rename_i ssz
    obtain ⟨g, hK⟩ := h
    have hl := g.hlen
    subst hl
    have hb2 := g.hblk
    subst hb2
    refine ⟨sz, H, opOk_of (call := noCall) noCall_sound ?_, hK⟩
    simp only [ho, cop, ccall, hargs, hcal, cappend, hsT, he, hsz, hby, hy, hz]
    have e1 : Nat.beq z.length sz = true := by rw [g.hz]; exact Nat.beq_refl sz
    have e2 : Nat.beq k 0 = false := by have := g.hk; cases k with | zero => omega | succ k => rfl
    have e3 : Nat.beq ysz sz = true := by rw [g.hysz]; exact Nat.beq_refl sz
    have e5 : (Nat.beq by' 0 || Nat.ble 4294967296 by') = false := by
      have h1 := g.hby1; have h2 := g.hby2
      rw [Bool.or_eq_false_iff]
      refine ⟨by cases by' with | zero => omega | succ k => rfl, ?_⟩
      cases hh : Nat.ble 4294967296 by' with
      | false => rfl
      | true => have := Nat.le_of_ble_eq_true hh; omega
    have e6 : Nat.ble ((0 + k) * by') growBytes = true := by rw [Nat.zero_add]; exact Nat.ble_eq_true_of_le g.hgrow
    have e7 : Nat.ble (0 + k) 0 = false := by
      have := g.hk
      cases hh : Nat.ble (0 + k) 0 with
      | false => rfl
      | true => have := Nat.le_of_ble_eq_true hh; omega
    simp only [e1, g.hnoz, e2, e3, e5, e6, e7, List.length_nil, List.isEmpty_nil, Bool.or_true, Bool.not_true, Bool.or_self, Bool.false_eq_true, if_false, List.flatten_nil, List.nil_append, Nat.zero_add] at *
    simp only [e2, e6, e7, Bool.not_true, Bool.or_self, Bool.false_eq_true, if_false]
  · exact h.elim

end
end Go.Cn
