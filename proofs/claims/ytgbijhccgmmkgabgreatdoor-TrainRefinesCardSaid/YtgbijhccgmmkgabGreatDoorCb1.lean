/- The canonical calculus: walks along hints. -/
import Derived.Test.YtgbijhccgmmkgabGreatDoorCa4
set_option linter.unusedVariables false
set_option linter.unusedSimpArgs false
noncomputable section
namespace Go.Cn

section
variable {P : Program}

def noCall : Call := fun _ _ _ _ _ => none
theorem ua6 : ue5 P noCall := fun f args H n lo x H' n' h => by simp [noCall] at h

/-- a region in its written order -/
inductive PRun (P : Program) (N : Nat) (ops : Array Oper) : List Oper → CS → CS → Prop where
  | nil (cs : CS) : PRun P N ops [] cs cs
  | skip {o : Oper} {rest : List Oper} {cs cs' : CS} : isSmall N o.dst = true → cwanted ops cs.tm o.guard = some false → PRun P N ops rest ⟨cput cs.tm o.dst (.tup []), cs.H, cs.n⟩ cs' → PRun P N ops (o :: rest) cs cs'
  | op {o : Oper} {rest : List Oper} {cs cs' : CS} {x : CV} {H : ua8} {n : Nat} : isSmall N o.dst = true → cwanted ops cs.tm o.guard = some true → OpOk P o cs.tm cs.H cs.n 0 x H n →
      PRun P N ops rest ⟨cput cs.tm o.dst x, H, n⟩ cs' → PRun P N ops (o :: rest) cs cs'
  | learn {rest : List Oper} {cs cs' : CS} {tm : CTm} : (∀ t, tget tm t = tget cs.tm t) → PRun P N ops rest ⟨tm, cs.H, cs.n⟩ cs' → PRun P N ops rest cs cs'

theorem prun_keeps {N : Nat} {ops : Array Oper} {rest : List Oper} {cs cs' : CS} (h : PRun P N ops rest cs cs') : ug7 cs.H cs'.H cs.n cs'.n 0 := by
  induction h with
  | nil cs => exact .refl
  | skip h1 h2 h3 ih => exact ih
  | op h1 h2 h3 h4 ih => exact h3.1.trans ih
  | learn h1 h2 ih => exact ih

theorem prun_sound {N : Nat} {ops : Array Oper} {rest : List Oper} {cs cs' : CS} (h : PRun P N ops rest cs cs') : ∀ (k : Nat) (E : Env) (a : Act), ops.toList.drop k = rest → Rel N E cs a →
    Fr E cs.n cs'.n → ∀ (Q : Exit → Act → World → Prop), LetsGo Q → (∀ E' a', Ex E E' → UB E E' cs.n cs'.n → Rel N E' cs' a' → Q .normal a' E'.w) → wpOps P ops Q (List.range' k rest.length) a E.w := by
  induction h with
  | nil cs =>
    intro k E a hd hR hfr Q hL hK
    simp only [List.length_nil, List.range'_zero, wpOps]
    exact hK E a (.refl E) .refl hR
  | skip hsm hw h3 ih =>
    rename_i o rest cs cs'
    intro k E a hd hR hfr Q hL hK
    have ho : ops[k]? = some o := by
      have : (ops.toList.drop k)[0]? = some o := by rw [hd]; rfl
      rw [List.getElem?_drop] at this
      simpa using this
    have hd' : ops.toList.drop (k + 1) = rest := by
      have : (ops.toList.drop k).drop 1 = rest := by rw [hd]; rfl
      rw [List.drop_drop] at this
      exact this
    have hsm : isSmall a.tmps.size o.dst = true := by rw [hR.size]; exact hsm
    rw [List.length_cons, List.range'_succ]
    simp only [wpOps, ho]
    rw [if_neg (by rw [ud2 hR.tmps hw]; simp)]
    exact ih (k + 1) E (a.put o.dst undef) hd' ⟨hR.heap, hR.keys, tr_put hR.tmps hsm vr_undef, by rw [put_size]; exact hR.size, by rw [uk0]; exact hR.defers⟩ hfr Q hL hK
  | op hsm hw hop h4 ih =>
    rename_i o rest cs cs' x H n
    intro k E a hd hR hfr Q hL hK
    have ho : ops[k]? = some o := by
      have : (ops.toList.drop k)[0]? = some o := by rw [hd]; rfl
      rw [List.getElem?_drop] at this
      simpa using this
    have hd' : ops.toList.drop (k + 1) = rest := by
      have : (ops.toList.drop k).drop 1 = rest := by rw [hd]; rfl
      rw [List.drop_drop] at this
      exact this
    have hsm : isSmall a.tmps.size o.dst = true := by rw [hR.size]; exact hsm
    rw [List.length_cons, List.range'_succ]
    simp only [wpOps, ho]
    rw [if_pos (ud2 hR.tmps hw)]
    have hk1 := hop.1
    have hk2 := prun_keeps h4
    refine .inl (hop.2 E a hR.heap hR.keys hR.tmps (hfr.mono (Nat.le_refl _) hk2.1) _ Q hL fun E' v hex hh hub hv => ?_)
    exact ih (k + 1) E' (a.put o.dst v) hd' ⟨hh, hk1.2.2 hR.keys, tr_put (fun t y hy => (hR.tmps t y hy).mono hex) hsm hv, by rw [put_size]; exact hR.size, by rw [uk0]; exact hR.defers⟩
      (hfr.next hub hk1.1) Q hL fun E'' a' hex' hub' hR' => hK E'' a' (hex.trans hex') (hub.trans hub' hk1.1 hk2.1) hR'
  | learn h1 h2 ih =>
    intro k E a hd hR hfr Q hL hK
    exact ih k E a hd ⟨hR.heap, hR.keys, fun t x hx => hR.tmps t x (by rw [← h1 t]; exact hx), hR.size, hR.defers⟩ hfr Q hL hK

theorem prun_takes {N id : Nat} {ops : Array Oper} {cs cs' : CS} (h : PRun P N ops ops.toList cs cs') : Takes P N (.region id ops false) cs cs' := by
  refine ⟨(prun_keeps h).1, fun E a Q hR hfr hL hK => wp_region ?_⟩
  have := prun_sound h 0 E a rfl hR hfr Q hL hK
  rwa [List.range_eq_range', ← Array.length_toList]

/-- a region whose order Go leaves open, in its written order -/
inductive DRun (P : Program) (N : Nat) (ops : Array Oper) : List Oper → List Nat → Nat → DS → DS → Prop where
  | nil {ms : List Nat} {i : Nat} (s : DS) : DRun P N ops [] ms i s s
  | step {o : Oper} {r : List Oper} {m : Nat} {ms : List Nat} {i k : Nat} {s s1 s' : DS} : isSmall N o.dst = true → DK P 0 ops m i o s k s1 → DRun P N ops r ms (i + 1) s1 s' → DRun P N ops (o :: r) (m :: ms) i s s'

theorem drun_trace {N : Nat} {ops : Array Oper} {rest : List Oper} {ms : List Nat} {i : Nat} {s s' : DS} (h : DRun P N ops rest ms i s s') :
    ∃ (D : Nat → DS) (K : Nat → Nat), D i = s ∧ D (i + rest.length) = s' ∧ ∀ k o, rest[k]? = some o → isSmall N o.dst = true ∧ DK P 0 ops (ms.getD k 0) (i + k) o (D (i + k)) (K (i + k)) (D (i + k + 1)) := by
  induction h with
  | nil s => exact ⟨fun _ => s, fun _ => 0, rfl, rfl, fun k o ho => by simp at ho⟩
  | step hs hk h ih =>
    rename_i o rest m ms i kk s s1 s'
    obtain ⟨D, K, d1, d2, d3⟩ := ih
    refine ⟨fun j => if j = i then s else D j, fun j => if j = i then kk else K j, by simp, ?_, fun k' o' ho => ?_⟩
    · have : i + (o :: rest).length ≠ i := by simp
      dsimp only
      rw [if_neg this, ← d2]
      congr 1
      simp; omega
    · cases k' with
      | zero =>
        simp at ho; subst ho
        refine ⟨hs, ?_⟩
        simp only [Nat.add_zero, if_true, List.getD_cons_zero]
        rw [if_neg (by omega), d1]
        exact hk
      | succ k' =>
        have := d3 k' o' (by simpa using ho)
        dsimp only
        rw [if_neg (by omega), if_neg (by omega), if_neg (by omega)]
        rw [show i + (k' + 1) = i + 1 + k' by omega]
        simpa using this

theorem drun_keeps {N : Nat} {ops : Array Oper} {rest : List Oper} {ms : List Nat} {i : Nat} {s s' : DS} (h : DRun P N ops rest ms i s s') : s.n ≤ s'.n := by
  induction h with
  | nil s => exact Nat.le_refl _
  | step hs hk h ih => exact Nat.le_trans (dstep_keeps (call := noCall) ua6 hk).1 ih

/-- what the region asks of its own text -/
def drawOk (P : Program) (ops : Array Oper) : Bool := P.follows .mixedOrders && tmpOk ops.toList ops (bits ops) && edgesOk ops

theorem drun_takes {N id : Nat} {ops : Array Oper} {cs : CS} {s : DS} (hc : drawOk P ops = true) (hd : DRun P N ops ops.toList (bits ops) 0 ⟨cs.tm, cs.H, [], cs.n, [], [], []⟩ s) (hkeys : Keys cs.H cs.n) :
    Takes P N (.region id ops true) cs ⟨s.tm, allF s.F ++ s.B, s.n⟩ := by
  unfold drawOk at hc
  simp only [Bool.and_eq_true] at hc
  obtain ⟨⟨hm, hok⟩, hed⟩ := hc
  obtain ⟨D, K, d1, d2, d3⟩ := drun_trace hd
  rw [Nat.zero_add, Array.length_toList] at d2
  have hT : uf3 P N 0 ops D K := by
    refine ⟨fun i hi => ?_, by rw [d1], by rw [d1], by rw [d1], by rw [d1]; exact hkeys⟩
    have := d3 i ops[i] (by simp [hi])
    rw [Nat.zero_add] at this
    exact ⟨ops[i], Array.getElem?_eq_getElem hi, this⟩
  have hle := hT.n_mono (call := noCall) ua6 (i := 0) (k := ops.size) (by omega) (Nat.le_refl _)
  rw [d1, d2] at hle
  refine ⟨hle, fun E a Q hR hfr hL hK => wp_region_any hm ?_⟩
  have hlsz : (Array.replicate ops.size false).size = ops.size := by simp
  have hnl : ∀ i, ¬ Lst (Array.replicate ops.size false) i := by
    intro i h
    unfold Lst at h
    rw [Array.getD_eq_getD_getElem?, Array.getElem?_replicate] at h
    split at h <;> simp at h
  refine wpAny_of (call := noCall) ua6 hT hok hed (E0 := E) (by rw [d1, d2]; exact hfr) hL (fun E' a' hex hub hR' => hK E' a' hex (by rw [d1, d2] at hub; exact hub) (by rw [d2] at hR'; exact hR')) ops.size _ E.draw a 0 ?_ ?_ ?_
  · refine ⟨hlsz, fun i hi => absurd hi (hnl i), uf5 E, fun k hk => .inl hk, fun t k hk h1 h2 x hx => ?_, hR.size, hR.defers⟩
    have hsame := hT.tm_same (t := t) (i := 0) (k := k) (by omega) hk (fun j o a1 a2 hoj hdj => hnl j (h1 j o a2 hoj hdj))
    rw [hsame, d1] at hx
    exact (hR.tmps t x hx).mono (uf5 E)
  · refine ⟨Nat.zero_le _, fun j hj hk => ⟨fun h => absurd h (hnl j), fun h => by omega⟩, .inl rfl, fun j hj => by omega, (uh0 hR.heap).base, fun b blk hb => ?_, fun j hj hl => absurd hl (hnl j)⟩
    rw [d1] at hb
    exact (uh0 hR.heap).good hb
  · have := List.countP_le_length (p := fun i => !(Array.replicate ops.size false).getD i true) (l := List.range ops.size)
    simpa using this

/-- one step of the machine, by a piece of code -/
theorem goes_takes' {f : FuncId} {N n0 top : Nat} {c : Code} {k : List Item} {cs cs' : CS} {Q : CV → ua8 → Prop} (hc : Keys cs.H cs.n → Takes P N c cs cs') (hn : n0 ≤ cs.n) (ht : cs'.n ≤ top) (h : Goes P f N n0 top k cs' Q) :
    Goes P f N n0 top (.code c :: k) cs Q := by
  intro E0 E a b callers h1 h2 h3 h4 h5 h6 h7
  exact uo0 (hc h6.keys) hn ht h E0 E a b callers h1 h2 h3 h4 h5 h6 h7

/-! ### a call by what is proved of the function -/
def ub8 (P : Program) (g : FuncId) (args : List CV) (H : ua8) (n lo : Nat) (x : CV) (H' : ua8) (n' : Nat) : Prop :=
  enterable P g ∧ ug7 H H' n n' lo ∧ HC P g args H n n' fun y K => y = x ∧ K = H'

open Classical in
def oneCall (g : FuncId) (args : List CV) (H : ua8) (n lo : Nat) (x : CV) (H' : ua8) (n' : Nat) : Call := fun g' args' H0 n0 lo0 =>
  if g' = g ∧ args' = args ∧ H0 = H ∧ n0 = n ∧ lo0 = lo then some (x, H', n') else none

theorem oneCall_sound {g : FuncId} {args : List CV} {H : ua8} {n lo : Nat} {x : CV} {H' : ua8} {n' : Nat} (h : ub8 P g args H n lo x H' n') : ue5 P (oneCall g args H n lo x H' n') := by
  intro f as H0 n0 lo0 y K m hc
  unfold oneCall at hc
  split at hc <;> simp only [Option.some.injEq, Prod.mk.injEq, reduceCtorEq] at hc
  next e =>
  obtain ⟨rfl, rfl, rfl, rfl, rfl⟩ := e
  obtain ⟨rfl, rfl, rfl⟩ := hc
  exact h

theorem oneCall_at (g : FuncId) (args : List CV) (H : ua8) (n lo : Nat) (x : CV) (H' : ua8) (n' : Nat) : oneCall g args H n lo x H' n' g args H n lo = some (x, H', n') := by
  unfold oneCall; rw [if_pos ⟨rfl, rfl, rfl, rfl, rfl⟩]

/-! ### what an operation comes to, told -/
/-- an operation that only reads comes to x -/
def ValIs (P : Program) (op : Op) (tm : CTm) (H : ua8) (x : CV) : Prop :=
  match op with
  | .indexAddr t a i => (match cval tm a with | some va => (match cval tm i with | some vi => cindexAddr P t va vi = some x | none => False) | none => False)
  | .index t a i => (match cval tm a with | some va => (match cval tm i with | some vi => cindex P t va vi = some x | none => False) | none => False)
  | .load t a => (match cval tm a with
    | some (.ptr b off) => (match hget H b with | some blk => cpart P t blk off = some x | none => False)
    | some (.rop cells off) => cpart P t cells off = some x
    | _ => False)
  | .slice t a lo hi mx => (match cval tm a with | some va => (match optVal tm lo with | some l => (match optVal tm hi with | some h => (match optVal tm mx with | some m => cslice P t va l h m H = some x | none => False) | none => False) | none => False) | none => False)
  | .binOp op t a b c => (match cval tm a with | some va => (match cval tm b with | some vb => cbin P op t va vb = some x | none => False) | none => False)
  | .call c => (match cvals tm c.args.toList with
    | some args => (match c.callee with
      | .builtin .len => (match args with | [v] => clen P c.argTypes v = some x | _ => False)
      | _ => False)
    | none => False)
  | _ => False

theorem un1 {op : Op} {tm : CTm} {H : ua8} {x : CV} {n lo : Nat} (h : ValIs P op tm H x) : cop P noCall op tm H n lo = some (x, H, n) := by
  unfold ValIs at h
  split at h
  · split at h <;> try exact h.elim
    rename_i h1
    split at h <;> try exact h.elim
    rename_i h2
    simp only [cop, h1, h2, h]
  · split at h <;> try exact h.elim
    rename_i h1
    split at h <;> try exact h.elim
    rename_i h2
    simp only [cop, h1, h2, h]
  · split at h <;> try exact h.elim
    · rename_i h1
      split at h <;> try exact h.elim
      rename_i h2
      simp only [cop, h1, cload, h2, h]
    · rename_i h1
      simp only [cop, h1, cload, h]
  · split at h <;> try exact h.elim
    rename_i h1
    split at h <;> try exact h.elim
    rename_i h2
    split at h <;> try exact h.elim
    rename_i h3
    split at h <;> try exact h.elim
    rename_i h4
    simp only [cop, h1, h2, h3, h4, h]
  · split at h <;> try exact h.elim
    rename_i h1
    split at h <;> try exact h.elim
    rename_i h2
    simp only [cop, h1, h2, h]
  · split at h <;> try exact h.elim
    rename_i h1
    split at h <;> try exact h.elim
    rename_i h2
    split at h <;> try exact h.elim
    simp only [cop, ccall, h1, h2, h]
  · exact h.elim

/-- a written row of cells -/
def uj9 (lo b off s : Nat) (blk : List CV) (v : CV) (blk' : List CV) : Prop :=
  lo ≤ b ∧ v.cells.length = s ∧ off + s ≤ blk.length ∧ v.cells.all ui1 = true ∧ putCells blk off v.cells = blk'

/-- an operation that writes or makes memory comes to x, H', n' -/
def MemIs (P : Program) (op : Op) (tm : CTm) (H : ua8) (n lo : Nat) (x : CV) (H' : ua8) (n' : Nat) : Prop :=
  match op with
  | .store t a v => (match cval tm a with
    | some (.ptr b off) => (match cval tm v with
      | some vv => (match tsize P t with
        | some s => (match hget H b with
          | some blk => (match hget H' b with
            | some blk' => uj9 lo b off s blk vv blk' ∧ x = .tup [] ∧ H' = hset H b blk' ∧ n' = n
            | none => False)
          | none => False)
        | none => False)
      | none => False)
    | _ => False)
  | .convert s d a => (match cval tm a with | some va => cconvert P s d va H n = some (x, H', n') | none => False)
  | .makeSlice t l c => (match cval tm l with | some vl => (match cval tm c with | some vc => cmakeSlice P t vl vc H n = some (x, H', n') | none => False) | none => False)
  | .call c => (match cvals tm c.args.toList with
    | some args => (match c.callee with
      | .value f => (match cval tm f with
        | some (.fn (.func g) first captured) => ub8 P g (first ++ args ++ captured) H n lo x H' n'
        | _ => False)
      | .builtin .append => (match args with | [s, y] => cappend P c.argTypes s y H n lo = some (x, H', n') | _ => False)
      | .builtin .copy => (match args with | [s, y] => ccopy P c.argTypes s y H n lo = some (x, H', n') | _ => False)
      | _ => False)
    | none => False)
  | _ => False

theorem un9 {o : Oper} {tm : CTm} {H H' : ua8} {n n' lo : Nat} {x : CV} (h : MemIs P o.op tm H n lo x H' n') : OpOk P o tm H n lo x H' n' := by
  unfold MemIs at h
  split at h
  · next t a v ho =>
    split at h <;> try exact h.elim
    rename_i b off h1
    split at h <;> try exact h.elim
    rename_i vv h2
    split at h <;> try exact h.elim
    rename_i s h3
    split at h <;> try exact h.elim
    rename_i blk h4
    split at h <;> try exact h.elim
    rename_i blk' h5
    obtain ⟨⟨g1, g2, g3, g4, g5⟩, rfl, h6, rfl⟩ := h
    refine ud5 (call := noCall) ua6 ?_
    simp only [ho, cop, h1, h2, h3, h4]
    rw [if_pos, g5, h6]
    simp only [Bool.and_eq_true]
    exact ⟨⟨⟨Nat.ble_eq_true_of_le g1, by rw [g2]; exact Nat.beq_refl s⟩, Nat.ble_eq_true_of_le g3⟩, g4⟩
  · next s d a ho =>
    split at h <;> try exact h.elim
    rename_i h1
    refine ud5 (call := noCall) ua6 ?_
    simp only [ho, cop, h1, h]
  · next t l c ho =>
    split at h <;> try exact h.elim
    rename_i h1
    split at h <;> try exact h.elim
    rename_i h2
    refine ud5 (call := noCall) ua6 ?_
    simp only [ho, cop, h1, h2, h]
  · next c ho =>
    split at h <;> try exact h.elim
    rename_i args h1
    split at h
    · next f hf =>
      split at h <;> try exact h.elim
      rename_i g first captured hg
      refine ud5 (oneCall_sound h) ?_
      simp only [ho, cop, ccall, h1, hf, hg, oneCall_at]
    · next hf =>
      split at h <;> try exact h.elim
      refine ud5 (call := noCall) ua6 ?_
      simp only [ho, cop, ccall, h1, hf, h]
    · next hf =>
      split at h <;> try exact h.elim
      refine ud5 (call := noCall) ua6 ?_
      simp only [ho, cop, ccall, h1, hf, h]
    · exact h.elim
  · exact h.elim


/-- a store: the block as it is behind it -/
def StoIs (P : Program) (op : Op) (tm : CTm) (H : ua8) (lo : Nat) (blk' : List CV) (K : Nat → Prop) : Prop :=
  match op with
  | .store t a v => (match cval tm a with
    | some (.ptr b off) => (match cval tm v with
      | some vv => (match tsize P t with
        | some s => (match hget H b with
          | some blk => uj9 lo b off s blk vv blk' ∧ K b
          | none => False)
        | none => False)
      | none => False)
    | _ => False)
  | _ => False

theorem stoIs_ok {o : Oper} {tm : CTm} {H : ua8} {n lo : Nat} {blk' : List CV} {K : Nat → Prop} (h : StoIs P o.op tm H lo blk' K) : ∃ b, OpOk P o tm H n lo (.tup []) (hset H b blk') n ∧ K b := by
  unfold StoIs at h
  split at h <;> try exact h.elim
  next t a v ho =>
  split at h <;> try exact h.elim
  rename_i b off h1
  split at h <;> try exact h.elim
  rename_i vv h2
  split at h <;> try exact h.elim
  rename_i s h3
  split at h <;> try exact h.elim
  rename_i blk h4
  obtain ⟨⟨g1, g2, g3, g4, g5⟩, hK⟩ := h
  refine ⟨b, ud5 (call := noCall) ua6 ?_, hK⟩
  simp only [ho, cop, h1, h2, h3, h4]
  rw [if_pos, g5]
  simp only [Bool.and_eq_true]
  exact ⟨⟨⟨Nat.ble_eq_true_of_le g1, by rw [g2]; exact Nat.beq_refl s⟩, Nat.ble_eq_true_of_le g3⟩, g4⟩

/-- what an append to a slice of one's own asks -/
structure ug6 (z : List CV) (noz : Bool) (ssz sz ysz by' lo b off len0 k : Nat) (b0 cells : List CV) (len : Nat) (blk : List CV) : Prop where
  hz : z.length = sz
  hnoz : noz = true
  hssz : ssz = sz
  hysz : ysz = sz
  hby1 : 1 ≤ by'
  hby2 : by' < 4294967296
  hoff : off = 0
  hk : 1 ≤ k
  hlo : lo ≤ b
  hgrow : (len0 + k) * by' ≤ growBytes
  hhave0 : len0 * sz ≤ b0.length
  hscal : cells.all ui1 = true
  hblk : b0.take (len0 * sz) ++ cells = blk
  hlen : len0 + k = len

/-- what an append to nil asks -/
structure AppNil (z : List CV) (noz : Bool) (sz ysz by' k : Nat) (cells : List CV) (len : Nat) (blk : List CV) : Prop where
  hz : z.length = sz
  hnoz : noz = true
  hysz : ysz = sz
  hby1 : 1 ≤ by'
  hby2 : by' < 4294967296
  hk : 1 ≤ k
  hgrow : k * by' ≤ growBytes
  hblk : cells = blk
  hlen : k = len

/-- an append: the new length, the new block; K: the element's size, the memory behind the new block -/
def AppIs (P : Program) (op : Op) (tm : CTm) (H : ua8) (lo len : Nat) (blk : List CV) (K : Nat → ua8 → Prop) : Prop :=
  match op with
  | .call c => (match c.callee with
    | .builtin .append => (match cvals tm c.args.toList with
      | some [s, y] => (match c.argTypes[0]? with
        | some sT => (match P.underlying sT with
          | some (.slice e) => (match tsize P e with
            | some sz => (match tbytes P e with
              | some by' => (match celems H y with
                | some (ysz, k, cells) => (match czero P e with
                  | some z => (match s with
                    | .slice ssz b off len0 none => (match hget H b with
                      | some b0 => ug6 z (noZeros P c.argTypes[1]?) ssz sz ysz by' lo b off len0 k b0 cells len blk ∧ K sz (hdel H b)
                      | none => False)
                    | .ro ssz [] (some 0) => AppNil z (noZeros P c.argTypes[1]?) sz ysz by' k cells len blk ∧ K sz H
                    | _ => False)
                  | none => False)
                | none => False)
              | none => False)
            | none => False)
          | _ => False)
        | none => False)
      | _ => False)
    | _ => False)
  | _ => False

theorem appIs_ok {o : Oper} {tm : CTm} {H : ua8} {n lo len : Nat} {blk : List CV} {K : Nat → ua8 → Prop} (h : AppIs P o.op tm H lo len blk K) : ∃ sz H1, OpOk P o tm H n lo (.slice sz n 0 len none) ((n, blk) :: H1) (n + 1) ∧ K sz H1 := by
  unfold AppIs at h
  split at h <;> try exact h.elim
  next c ho =>
  split at h <;> try exact h.elim
  rename_i hcal
  split at h <;> try exact h.elim
  rename_i s y hargs
  split at h <;> try exact h.elim
  rename_i sT hsT
  split at h <;> try exact h.elim
  rename_i e he
  split at h <;> try exact h.elim
  rename_i sz hsz
  split at h <;> try exact h.elim
  rename_i by' hby
  split at h <;> try exact h.elim
  rename_i ysz k cells hy
  split at h <;> try exact h.elim
  rename_i z hz
  split at h
  · rename_i ssz b off len0
    split at h <;> try exact h.elim
    rename_i b0 hb
    obtain ⟨g, hK⟩ := h
    have hl := g.hlen
    subst hl
    have hb2 := g.hblk
    subst hb2
    refine ⟨sz, hdel H b, ud5 (call := noCall) ua6 ?_, hK⟩
    simp only [ho, cop, ccall, hargs, hcal, cappend, hsT, he, hsz, hby, hy, hz]
    have e1 : Nat.beq z.length sz = true := by rw [g.hz]; exact Nat.beq_refl sz
    have e2 : Nat.beq k 0 = false := by have := g.hk; cases k with | zero => omega | succ k => rfl
    have e3 : Nat.beq ysz sz = true := by rw [g.hysz]; exact Nat.beq_refl sz
    have e4 : Nat.beq ssz sz = true := by rw [g.hssz]; exact Nat.beq_refl sz
    have e5 : (Nat.beq by' 0 || Nat.ble 4294967296 by') = false := by
      have h1 := g.hby1; have h2 := g.hby2
      rw [Bool.or_eq_false_iff]
      refine ⟨by cases by' with | zero => omega | succ k => rfl, ?_⟩
      cases hh : Nat.ble 4294967296 by' with
      | false => rfl
      | true => have := Nat.le_of_ble_eq_true hh; omega
    have e6 : Nat.ble ((len0 + k) * by') growBytes = true := Nat.ble_eq_true_of_le g.hgrow
    have e7 : Nat.ble lo b = true := Nat.ble_eq_true_of_le g.hlo
    have e8 : Nat.ble (len0 * sz) b0.length = true := Nat.ble_eq_true_of_le g.hhave0
    have e9 : off = 0 := g.hoff
    subst e9
    simp only [e1, g.hnoz, e2, e3, e4, e5, e6, e7, e8, hb, g.hscal, Bool.not_true, Bool.or_self, Bool.false_eq_true, if_false, Bool.and_self, if_true, show Nat.beq 0 0 = true from rfl]
  · rename_i ssz
    obtain ⟨g, hK⟩ := h
    have hl := g.hlen
    subst hl
    have hb2 := g.hblk
    subst hb2
    refine ⟨sz, H, ud5 (call := noCall) ua6 ?_, hK⟩
    simp only [ho, cop, ccall, hargs, hcal, cappend, hsT, he, hsz, hby, hy, hz]
    have e1 : Nat.beq z.length sz = true := by rw [g.hz]; exact Nat.beq_refl sz
    have e2 : Nat.beq k 0 = false := by have := g.hk; cases k with | zero => omega | succ k => rfl
    have e3 : Nat.beq ysz sz = true := by rw [g.hysz]; exact Nat.beq_refl sz
    have e5 : (Nat.beq by' 0 || Nat.ble 4294967296 by') = false := by
      have h1 := g.hby1; have h2 := g.hby2
      rw [Bool.or_eq_false_iff]
      refine ⟨by cases by' with | zero => omega | succ k => rfl, ?_⟩
      cases hh : Nat.ble 4294967296 by' with
      | false => rfl
      | true => have := Nat.le_of_ble_eq_true hh; omega
    have e6 : Nat.ble ((0 + k) * by') growBytes = true := by rw [Nat.zero_add]; exact Nat.ble_eq_true_of_le g.hgrow
    have e7 : Nat.ble (0 + k) 0 = false := by
      have := g.hk
      cases hh : Nat.ble (0 + k) 0 with
      | false => rfl
      | true => have := Nat.le_of_ble_eq_true hh; omega
    simp only [e1, g.hnoz, e2, e3, e5, e6, e7, List.length_nil, List.isEmpty_nil, Bool.or_true, Bool.not_true, Bool.or_self, Bool.false_eq_true, if_false, List.flatten_nil, List.nil_append, Nat.zero_add] at *
    simp only [e2, e6, e7, Bool.not_true, Bool.or_self, Bool.false_eq_true, if_false]
  · exact h.elim

end
end Go.Cn
end
noncomputable section
namespace Go.Cn

mutual
/-- what must be known of what is read-only inside, then K -/
def CV.clnK : CV → Prop → Prop
  | .agg l, K => clnLK l K
  | .tup l, K => clnLK l K
  | .fn _ a b, K => clnLK a (clnLK b K)
  | .rop c off, K => ub0 (.rop c off) ∧ K
  | .ro sz xs cap, K => ub0 (.ro sz xs cap) ∧ K
  | _, K => K
def clnLK : List CV → Prop → Prop
  | [], K => K
  | x :: xs, K => CV.clnK x (clnLK xs K)
end

mutual
theorem clnK_out : ∀ (x : CV) {K : Prop}, x.clnK K → x.Tidy ∧ K
  | .agg l, K, h => by simp only [CV.clnK] at h; exact uk3 l h
  | .tup l, K, h => by simp only [CV.clnK] at h; exact uk3 l h
  | .fn _ a b, K, h => by
    simp only [CV.clnK] at h
    obtain ⟨h1, h2⟩ := uk3 a h
    obtain ⟨h3, h4⟩ := uk3 b h2
    exact ⟨⟨h1, h3⟩, h4⟩
  | .rop c off, K, h => h
  | .ro sz xs cap, K, h => h
  | .bool _, K, h => ⟨trivial, h⟩
  | .int _ _, K, h => ⟨trivial, h⟩
  | .str _, K, h => ⟨trivial, h⟩
  | .ptr _ _, K, h => ⟨trivial, h⟩
  | .nilptr, K, h => ⟨trivial, h⟩
  | .slice _ _ _ _ _, K, h => ⟨trivial, h⟩
  | .nilfn, K, h => ⟨trivial, h⟩
theorem uk3 : ∀ (xs : List CV) {K : Prop}, clnLK xs K → uj6 xs ∧ K
  | [], K, h => ⟨trivial, h⟩
  | x :: xs, K, h => by
    simp only [clnLK] at h
    obtain ⟨h1, h2⟩ := clnK_out x h
    obtain ⟨h3, h4⟩ := uk3 xs h2
    exact ⟨⟨h1, h3⟩, h4⟩
end

mutual
theorem ren_back {g g' : Nat → Option Nat} (hg : ∀ b c, g b = some c → g' c = some b) : ∀ (x y : CV), x.ren g = some y → y.ren g' = some x
  | .ptr b off, y, h => by
    simp only [CV.ren] at h; split at h <;> simp only [Option.some.injEq, reduceCtorEq] at h
    next c hc => subst h; simp only [CV.ren, hg b c hc]
  | .slice sz b off len cap, y, h => by
    simp only [CV.ren] at h; split at h <;> simp only [Option.some.injEq, reduceCtorEq] at h
    next c hc => subst h; simp only [CV.ren, hg b c hc]
  | .agg l, y, h => by
    simp only [CV.ren] at h; split at h <;> simp only [Option.some.injEq, reduceCtorEq] at h
    next l' hl => subst h; simp only [CV.ren, ui0 hg l l' hl]
  | .tup l, y, h => by
    simp only [CV.ren] at h; split at h <;> simp only [Option.some.injEq, reduceCtorEq] at h
    next l' hl => subst h; simp only [CV.ren, ui0 hg l l' hl]
  | .fn f a b, y, h => by
    simp only [CV.ren] at h; split at h <;> simp only [Option.some.injEq, reduceCtorEq] at h
    next a' b' ha hb => subst h; simp only [CV.ren, ui0 hg a a' ha, ui0 hg b b' hb]
  | .bool _, y, h => by simp only [CV.ren, Option.some.injEq] at h; subst h; rfl
  | .int _ _, y, h => by simp only [CV.ren, Option.some.injEq] at h; subst h; rfl
  | .str _, y, h => by simp only [CV.ren, Option.some.injEq] at h; subst h; rfl
  | .nilptr, y, h => by simp only [CV.ren, Option.some.injEq] at h; subst h; rfl
  | .nilfn, y, h => by simp only [CV.ren, Option.some.injEq] at h; subst h; rfl
  | .rop _ _, y, h => by simp only [CV.ren, Option.some.injEq] at h; subst h; rfl
  | .ro _ _ _, y, h => by simp only [CV.ren, Option.some.injEq] at h; subst h; rfl
theorem ui0 {g g' : Nat → Option Nat} (hg : ∀ b c, g b = some c → g' c = some b) : ∀ (xs ys : List CV), renL g xs = some ys → renL g' ys = some xs
  | [], ys, h => by simp only [renL, Option.some.injEq] at h; subst h; rfl
  | x :: xs, ys, h => by
    simp only [renL] at h; split at h <;> simp only [Option.some.injEq, reduceCtorEq] at h
    next y ys' h1 h2 => subst h; simp only [renL, ren_back hg x y h1, ui0 hg xs ys' h2]
end

/-- the temporaries that are kept, under the new numbers -/
def cutTm (g : Nat → Option Nat) (tm : CTm) : List Nat → Option CTm
  | [] => some []
  | t :: r => match tget tm t with
    | some x => match CV.ren g x with
      | some y => match cutTm g tm r with
        | some l => some ((t, y) :: l)
        | none => none
      | none => none
    | none => none

/-- cells that speak of no block by number, whatever else they say -/
def ue1 (blk : List CV) : Prop := (∀ g, renL g blk = some blk) ∧ uj6 blk

/-- this row of cells, under the new numbers, is that one -/
def uk7 (pi : List (Nat × Nat)) (blk blk' : List CV) : Prop := renL (lookR pi) blk = some blk' ∧ uj6 blk'

/-- the blocks that are kept (old number, new number), then K; 'fl': those that are left as they are; 'mx': those that are told -/
def cutHK (ps : List (Nat × Nat)) (H : ua8) (fl : List Nat) (mx : ua8) : List (Nat × Nat) → (ua8 → Prop) → Prop
  | [], K => K []
  | (b, c) :: r, K => match hget H b with
    | some blk => match hget mx b with
      | some blk' => uk7 ps blk blk' ∧ cutHK ps H fl mx r (fun l => K ((c, blk') :: l))
      | none => match fl.any (Nat.beq b) with
        | true => ue1 blk ∧ cutHK ps H fl mx r (fun l => K ((c, blk) :: l))
        | false => match renL (lookR ps) blk with
          | some blk' => clnLK blk' (cutHK ps H fl mx r (fun l => K ((c, blk') :: l)))
          | none => False
    | none => False

def noDup : List Nat → Bool
  | [] => true
  | x :: r => match r.any (Nat.beq x) with | true => false | false => noDup r

def pairOk (n0 top n : Nat) (p : Nat × Nat) : Bool :=
  match Nat.blt p.2 n && Nat.blt p.1 top with
  | true => match Nat.blt p.1 n0 with | true => Nat.beq p.1 p.2 | false => Nat.ble n0 p.2
  | false => false

def pairsOk (n0 top n : Nat) : List (Nat × Nat) → Bool
  | [] => true
  | p :: r => match pairOk n0 top n p with | true => pairsOk n0 top n r | false => false

def fsts : List (Nat × Nat) → List Nat
  | [] => []
  | p :: r => p.1 :: fsts r
def snds : List (Nat × Nat) → List Nat
  | [] => []
  | p :: r => p.2 :: snds r

def cutOk (n0 top : Nat) (pi : List (Nat × Nat)) (n m : Nat) : Bool :=
  match Nat.ble m top && (Nat.ble n0 n && Nat.ble n top) with
  | true => match pairsOk n0 top n pi with
    | true => match noDup (fsts pi) with | true => noDup (snds pi) | false => false
    | false => false
  | false => false

def clnT : CTm → Prop → Prop
  | [], K => K
  | (_, x) :: r, K => CV.clnK x (clnT r K)
theorem clnT_out : ∀ {tm : CTm} {K : Prop}, clnT tm K → (∀ t x, tget tm t = some x → x.Tidy) ∧ K
  | [], K, h => ⟨fun t x hx => by simp [uf1] at hx, h⟩
  | (u, z) :: r, K, h => by
    simp only [clnT] at h
    obtain ⟨h1, h2⟩ := clnK_out z h
    obtain ⟨h3, h4⟩ := clnT_out h2
    refine ⟨fun t x hx => ?_, h4⟩
    rw [uc7] at hx
    split at hx
    · cases hx; exact h1
    · exact h3 t x hx

theorem cutTm_get {g : Nat → Option Nat} {tm : CTm} : ∀ {ts : List Nat} {tm' : CTm}, cutTm g tm ts = some tm' → ∀ t y, tget tm' t = some y → ∃ x, tget tm t = some x ∧ x.ren g = some y
  | [], tm', h, t, y, hy => by simp only [cutTm, Option.some.injEq] at h; subst h; simp [uf1] at hy
  | u :: r, tm', h, t, y, hy => by
    simp only [cutTm] at h
    split at h <;> try (simp at h; done)
    next x hx =>
    split at h <;> try (simp at h; done)
    next z hz =>
    split at h <;> simp only [Option.some.injEq, reduceCtorEq] at h
    next l hl =>
    subst h
    rw [uc7] at hy
    split at hy
    · next e => subst e; cases hy; exact ⟨x, hx, hz⟩
    · exact cutTm_get hl t y hy

theorem cutHK_out {ps : List (Nat × Nat)} {g' : Nat → Option Nat} (hg : ∀ b c, lookR ps b = some c → g' c = some b) {H : ua8} {fl : List Nat} {mx : ua8} : ∀ {pi : List (Nat × Nat)} {K : ua8 → Prop}, cutHK ps H fl mx pi K →
    ∃ l, K l ∧ ∀ c blk', hget l c = some blk' → uj6 blk' ∧ ∃ b blk, (b, c) ∈ pi ∧ hget H b = some blk ∧ renL g' blk' = some blk
  | [], K, h => ⟨[], h, fun c blk' hc => by simp [uc2] at hc⟩
  | (b, c) :: r, K, h => by
    simp only [cutHK] at h
    split at h <;> try exact h.elim
    next blk hb =>
    split at h
    · next blk1 hm =>
      obtain ⟨⟨hr, ht⟩, h⟩ := h
      obtain ⟨l, hK, hl⟩ := cutHK_out hg h
      refine ⟨_, hK, fun c' blk' hc => ?_⟩
      rw [ub2] at hc
      split at hc
      · next e => subst e; cases hc; exact ⟨ht, b, blk, by simp, hb, ui0 hg _ _ hr⟩
      · obtain ⟨h1, b', blk2, h2, h3, h4⟩ := hl c' blk' hc
        exact ⟨h1, b', blk2, by simp [h2], h3, h4⟩
    · split at h
      · obtain ⟨hs, h⟩ := h
        obtain ⟨l, hK, hl⟩ := cutHK_out hg h
        refine ⟨_, hK, fun c' blk' hc => ?_⟩
        rw [ub2] at hc
        split at hc
        · next e => subst e; cases hc; exact ⟨hs.2, b, blk, by simp, hb, hs.1 g'⟩
        · obtain ⟨h1, b', blk2, h2, h3, h4⟩ := hl c' blk' hc
          exact ⟨h1, b', blk2, by simp [h2], h3, h4⟩
      · split at h <;> try exact h.elim
        next blk1 hr =>
        obtain ⟨ht, h⟩ := uk3 _ h
        obtain ⟨l, hK, hl⟩ := cutHK_out hg h
        refine ⟨_, hK, fun c' blk' hc => ?_⟩
        rw [ub2] at hc
        split at hc
        · next e => subst e; cases hc; exact ⟨ht, b, blk, by simp, hb, ui0 hg _ _ hr⟩
        · obtain ⟨h1, b', blk2, h2, h3, h4⟩ := hl c' blk' hc
          exact ⟨h1, b', blk2, by simp [h2], h3, h4⟩

theorem noDup_spec : ∀ {l : List Nat}, noDup l = true → l.Nodup
  | [], _ => List.nodup_nil
  | x :: r, h => by
    simp only [noDup] at h
    split at h
    · simp at h
    · next hh =>
      rw [List.nodup_cons]
      refine ⟨fun hx => ?_, noDup_spec h⟩
      have : r.any (Nat.beq x) = true := List.any_eq_true.2 ⟨x, hx, Nat.beq_refl x⟩
      rw [hh] at this; simp at this

theorem fsts_eq : ∀ (pi : List (Nat × Nat)), fsts pi = pi.map (·.1)
  | [] => rfl
  | p :: r => by simp [fsts, fsts_eq r]
theorem snds_eq : ∀ (pi : List (Nat × Nat)), snds pi = pi.map (·.2)
  | [] => rfl
  | p :: r => by simp [snds, snds_eq r]

theorem pairsOk_spec {n0 top n : Nat} : ∀ {pi : List (Nat × Nat)}, pairsOk n0 top n pi = true → ∀ b c, (b, c) ∈ pi → c < n ∧ b < top ∧ (b < n0 → b = c) ∧ (n0 ≤ b → n0 ≤ c)
  | [], _, b, c, h => by simp at h
  | p :: r, hp, b, c, h => by
    simp only [pairsOk] at hp
    split at hp <;> try (simp at hp; done)
    next hk =>
    rcases List.mem_cons.1 h with rfl | h
    · unfold pairOk at hk
      split at hk <;> try (simp at hk; done)
      next hh =>
      simp only [Bool.and_eq_true, Nat.blt_eq] at hh
      split at hk
      · next h2 =>
        have h2 : b < n0 := by simpa [Nat.blt_eq] using h2
        exact ⟨hh.1, hh.2, fun _ => Nat.eq_of_beq_eq_true hk, fun h3 => by omega⟩
      · next h2 =>
        have h2 : ¬ b < n0 := by
          intro h3
          have : Nat.blt b n0 = true := by rw [Nat.blt_eq]; exact h3
          have h2 : Nat.blt b n0 = false := h2
          rw [h2] at this; simp at this
        exact ⟨hh.1, hh.2, fun h3 => by omega, fun _ => Nat.le_of_ble_eq_true hk⟩
    · exact pairsOk_spec hp b c h

theorem lookR_mem' : ∀ {pi : List (Nat × Nat)} {b c : Nat}, lookR pi b = some c → (b, c) ∈ pi
  | [], b, c, h => by simp [lookR] at h
  | (b', c') :: r, b, c, h => by
    simp only [lookR] at h
    split at h
    · next e => have e := Nat.eq_of_beq_eq_true e; subst e; cases h; simp
    · exact List.mem_cons_of_mem _ (lookR_mem' h)

theorem ug3 : ∀ {pi : List (Nat × Nat)} {b c : Nat}, (pi.map (·.1)).Nodup → (b, c) ∈ pi → lookR pi b = some c
  | [], b, c, _, h => by simp at h
  | (b', c') :: r, b, c, hn, h => by
    simp only [List.map_cons, List.nodup_cons] at hn
    simp only [lookR]
    rcases List.mem_cons.1 h with h | h
    · cases h; simp
    · have : ¬ b' = b := by
        rintro rfl
        exact hn.1 (List.mem_map.2 ⟨(b', c), h, rfl⟩)
      have h0 : Nat.beq b' b = false := by
        cases hh : Nat.beq b' b with
        | false => rfl
        | true => exact absurd (Nat.eq_of_beq_eq_true hh) this
      rw [h0]
      exact ug3 hn.2 h

/-- the state cut, then K -/
def cutK (n0 top : Nat) (ts : List Nat) (pi : List (Nat × Nat)) (fl : List Nat) (mx : ua8) (n : Nat) (cs : CS) (K : CS → Prop) : Prop :=
  match cutOk n0 top pi n cs.n with
  | true => match cutTm (lookR pi) cs.tm ts with
    | some tm => clnT tm (cutHK pi cs.H fl mx pi fun H => K ⟨tm, H, n⟩)
    | none => False
  | false => False

theorem cut_cs {n0 top : Nat} {ts : List Nat} {pi : List (Nat × Nat)} {fl : List Nat} {mx : ua8} {n : Nat} {cs : CS} {K : CS → Prop} (h : cutK n0 top ts pi fl mx n cs K) :
    ∃ cs', K cs' ∧ cs.n ≤ top ∧ n0 ≤ cs'.n ∧ cs'.n ≤ top ∧ Cut n0 top ((pi.filter fun p => Nat.ble n0 p.1).map fun p => (p.2, p.1)) cs' cs := by
  unfold cutK at h
  split at h <;> try exact h.elim
  next hok =>
  split at h <;> try exact h.elim
  next tm htm =>
  obtain ⟨hT, h⟩ := clnT_out h
  unfold cutOk at hok
  split at hok <;> try (simp at hok; done)
  next hk =>
  simp only [Bool.and_eq_true] at hk
  split at hok <;> try (simp at hok; done)
  next hp =>
  split at hok <;> try (simp at hok; done)
  next hd1 =>
  have hd1 := noDup_spec hd1
  have hd2 := noDup_spec hok
  rw [fsts_eq] at hd1
  rw [snds_eq] at hd2
  have hp := pairsOk_spec hp
  have k1 := Nat.le_of_ble_eq_true hk.1
  have k2 := Nat.le_of_ble_eq_true hk.2.1
  have k3 := Nat.le_of_ble_eq_true hk.2.2
  have hmem : ∀ b c, (b, c) ∈ (pi.filter fun p => Nat.ble n0 p.1).map (fun p => (p.2, p.1)) → (c, b) ∈ pi ∧ n0 ≤ c := by
    intro b c hm
    obtain ⟨⟨c', b'⟩, h1, h2⟩ := List.mem_map.1 hm
    obtain ⟨h3, h4⟩ := List.mem_filter.1 h1
    cases h2
    exact ⟨h3, Nat.le_of_ble_eq_true h4⟩
  have hnd : (((pi.filter fun p => Nat.ble n0 p.1).map fun p => (p.2, p.1)).map (·.1)).Nodup := by
    rw [List.map_map]
    refine List.Nodup.sublist ?_ hd2
    exact (List.filter_sublist (p := fun p : Nat × Nat => Nat.ble n0 p.1)).map _
  have hback : ∀ b c, lookR pi b = some c → renN n0 top ((pi.filter fun p => Nat.ble n0 p.1).map fun p => (p.2, p.1)) c = some b := by
    intro b c hb
    have hm := lookR_mem' hb
    obtain ⟨g1, g2, g3, g4⟩ := hp b c hm
    by_cases hlt : b < n0
    · have e := g3 hlt
      subst e
      exact up0 (by omega)
    · rw [renN_in ⟨g4 (by omega), by omega⟩]
      refine ug3 hnd (List.mem_map.2 ⟨(b, c), List.mem_filter.2 ⟨hm, ?_⟩, rfl⟩)
      exact Nat.ble_eq_true_of_le (by omega)
  obtain ⟨H, hK, hH⟩ := cutHK_out hback h
  refine ⟨⟨tm, H, n⟩, hK, k1, k2, k3, ?_, fun b c hb => ?_, fun c blk' hc => ?_, fun t y hy => ?_, k2⟩
  · intro b b' c hb hb'
    obtain ⟨m1, _⟩ := hmem b c (lookR_mem' hb)
    obtain ⟨m2, _⟩ := hmem b' c (lookR_mem' hb')
    have e1 := ug3 hd1 m1
    have e2 := ug3 hd1 m2
    rw [e1] at e2
    exact Option.some.inj e2
  · obtain ⟨m1, m2⟩ := hmem b c (lookR_mem' hb)
    obtain ⟨g1, g2, _, _⟩ := hp c b m1
    exact ⟨⟨m2, g2⟩, g1⟩
  · obtain ⟨m0, b, blk, m1, m2, m3⟩ := hH c blk' hc
    obtain ⟨g1, _, _, _⟩ := hp b c m1
    exact ⟨g1, m0, b, blk, hback b c (ug3 hd1 m1), m2, m3⟩
  · obtain ⟨x, m1, m2⟩ := cutTm_get htm t y hy
    exact ⟨hT t y hy, x, m1, ren_back hback _ _ m2⟩

end Go.Cn
end
noncomputable section
namespace Go.Cn

/-- what a walk is told ahead. 'run k': the next k operations and tests are reckoned; 'val': what the next operation, which only reads, comes to; 'new': the next one makes these blocks; 'mem': the memory behind the next one; 'sto': the block behind a store; 'app': the length and the block behind an append;
    'br': the next test is open, and these temporaries hold the same; 'ask': two ways, by a proposition; 'cut': forget and renumber; 'cutm': blocks are told there; 'wk': go on from another state, told; 'stp n': n steps of the control on, the walk ends -/
inductive Hint where
  | nil
  | stp (n : Nat)
  | run (k : Nat) (h : Hint)
  | val (x : CV) (h : Hint)
  | new (loud : Bool) (x : CV) (K : ua8) (n : Nat) (h : Hint)
  | mem (loud : Bool) (x : CV) (H : ua8) (n : Nat) (h : Hint)
  | sto (loud : Bool) (blk : List CV) (h : Hint)
  | app (loud : Bool) (len : Nat) (blk : List CV) (h : Hint)
  | br (ts : List Nat) (l r : Hint)
  | ask (c : Prop) (l r : Hint)
  | cut (ts : List Nat) (pi : List (Nat × Nat)) (fl : List Nat) (n : Nat) (h : Hint)
  | cutm (ts : List Nat) (pi : List (Nat × Nat)) (fl : List Nat) (mx : ua8) (n : Nat) (h : Hint)
  | wk (tm : CTm) (H : ua8) (n : Nat) (h : Hint)

def Hint.norm : Hint → Hint
  | .run 0 h => h.norm
  | h => h

def BIf (b : Bool) (X Y : Unit → Prop) : Prop := match b with | true => X () | false => Y ()

/-- these temporaries hold b -/
def lrnC (tm : CTm) (b : Bool) (K : Prop) : List Nat → Prop
  | [] => K
  | t :: r => match tget tm t with
    | some (.bool b') => b' = b ∧ lrnC tm b K r
    | _ => False

def puts (v : Bool) : List Nat → CTm
  | [] => []
  | t :: r => (t, .bool v) :: puts v r

theorem tget_append (a b : CTm) (t : Nat) : tget (a ++ b) t = match tget a t with | some x => some x | none => tget b t := by
  induction a with
  | nil => rfl
  | cons p a ih =>
    obtain ⟨c, x⟩ := p
    rw [List.cons_append, uc7, uc7]
    split
    · rfl
    · exact ih

theorem lrnC_out {tm : CTm} {b : Bool} {K : Prop} : ∀ {ts : List Nat}, lrnC tm b K ts → K ∧ ∀ t, tget (puts b ts ++ tm) t = tget tm t
  | [], h => ⟨h, fun t => rfl⟩
  | u :: r, h => by
    simp only [lrnC] at h
    split at h <;> try exact h.elim
    next b' hb =>
    obtain ⟨rfl, h⟩ := h
    obtain ⟨h1, h2⟩ := lrnC_out h
    refine ⟨h1, fun t => ?_⟩
    show tget ((u, .bool b') :: (puts b' r ++ tm)) t = _
    rw [uc7]
    split
    · next e => subst e; exact hb.symm
    · exact h2 t

def tst (tm : CTm) (b : Bool) (X Y : Hint → CTm → Prop) : Hint → Prop
  | .run k h => (match k with
    | 0 => tst tm b X Y h
    | k + 1 => match b with | true => X (.run k h) [] | false => Y (.run k h) [])
  | .br ts l r => lrnC tm b (BIf b (fun _ => X l (puts true ts)) (fun _ => Y r (puts false ts))) ts
  | .ask c l r => (c → tst tm b X Y l) ∧ (¬ c → tst tm b X Y r)
  | _ => False

theorem um8 {tm : CTm} {b : Bool} {X Y : Hint → CTm → Prop} : ∀ (h : Hint), tst tm b X Y h → ∃ h' ov, (∀ t, tget (ov ++ tm) t = tget tm t) ∧ match b with | true => X h' ov | false => Y h' ov
  | .run k h, ht => by
    simp only [tst] at ht
    cases k with
    | zero => exact um8 h ht
    | succ k => cases b with | true => exact ⟨_, _, fun _ => rfl, ht⟩ | false => exact ⟨_, _, fun _ => rfl, ht⟩
  | .br ts l r, ht => by
    simp only [tst] at ht
    obtain ⟨h1, h2⟩ := lrnC_out ht
    cases b with | true => exact ⟨_, _, h2, h1⟩ | false => exact ⟨_, _, h2, h1⟩
  | .ask c l r, ht => by
    simp only [tst] at ht
    by_cases hc : c
    · exact um8 l (ht.1 hc)
    · exact um8 r (ht.2 hc)
  | .nil, ht => ht.elim
  | .stp _, ht => ht.elim
  | .val .., ht => ht.elim
  | .new .., ht => ht.elim
  | .mem .., ht => ht.elim
  | .sto .., ht => ht.elim
  | .app .., ht => ht.elim
  | .cut .., ht => ht.elim

/-- the Bool that a guard looks at -/
def gval (ops : Array Oper) (tm : CTm) (j : Nat) : Option CV := match ops[j]? with
  | none => some (.tup [])
  | some o => match o.dst with
    | none => some (.tup [])
    | some t => tget tm t

theorem gval_tup {ops : Array Oper} {tm : CTm} {j : Nat} {want : Bool} {vs : List CV} (hv : gval ops tm j = some (.tup vs)) : cwanted ops tm (some (j, want)) = some false := by
  unfold gval at hv
  simp only [cwanted]
  cases hj : ops[j]? with
  | none => rfl
  | some o' =>
    simp only [hj] at hv ⊢
    cases hd : o'.dst with
    | none => rfl
    | some t => simp only [hd] at hv ⊢; rw [hv]

theorem gval_bool {ops : Array Oper} {tm : CTm} {j : Nat} {want b : Bool} (hv : gval ops tm j = some (.bool b)) : cwanted ops tm (some (j, want)) = some (b == want) := by
  unfold gval at hv
  simp only [cwanted]
  cases hj : ops[j]? with
  | none => simp [hj] at hv
  | some o' =>
    simp only [hj] at hv ⊢
    cases hd : o'.dst with
    | none => simp [hd] at hv
    | some t => simp only [hd] at hv ⊢; rw [hv]

theorem cwanted_eq {ops : Array Oper} {tm tm' : CTm} (h : ∀ t, tget tm' t = tget tm t) (g : Option (Nat × Bool)) : cwanted ops tm' g = cwanted ops tm g := by
  unfold cwanted
  cases g with
  | none => rfl
  | some p =>
    obtain ⟨j, want⟩ := p
    simp only
    cases ops[j]? with
    | none => rfl
    | some o => simp only; cases o.dst with | none => rfl | some t => simp only [h t]

def hop (P : Program) (call : Call) (o : Oper) (K : Hint → CS → Prop) (cs : CS) : Hint → Prop
  | .run k h => (match k with
    | 0 => hop P call o K cs h
    | k + 1 => match fop o.op P call cs.tm cs.H cs.n 0 with
      | some (x, H, n) => K (.run k h) ⟨cput cs.tm o.dst x, H, n⟩
      | none => False)
  | .val x h => ValIs P o.op cs.tm cs.H x ∧ K h ⟨cput cs.tm o.dst x, cs.H, cs.n⟩
  | .new _ x K0 n h => MemIs P o.op cs.tm cs.H cs.n 0 x (K0 ++ cs.H) n ∧ K h ⟨cput cs.tm o.dst x, K0 ++ cs.H, n⟩
  | .mem _ x H n h => MemIs P o.op cs.tm cs.H cs.n 0 x H n ∧ K h ⟨cput cs.tm o.dst x, H, n⟩
  | .sto _ blk h => StoIs P o.op cs.tm cs.H 0 blk fun b => K h ⟨cput cs.tm o.dst (.tup []), hset cs.H b blk, cs.n⟩
  | .app _ len blk h => AppIs P o.op cs.tm cs.H 0 len blk fun sz H1 => K h ⟨cput cs.tm o.dst (.slice sz cs.n 0 len none), (cs.n, blk) :: H1, cs.n + 1⟩
  | .br ts l r => (match o.op with
    | .pick c a b => (match cval cs.tm c with
      | some (.bool v) => lrnC cs.tm v (BIf v
          (fun _ => match cval (puts true ts ++ cs.tm) a with | some x => K l ⟨cput (puts true ts ++ cs.tm) o.dst x, cs.H, cs.n⟩ | none => False)
          (fun _ => match cval (puts false ts ++ cs.tm) b with | some x => K r ⟨cput (puts false ts ++ cs.tm) o.dst x, cs.H, cs.n⟩ | none => False)) ts
      | _ => False)
    | _ => False)
  | .ask c l r => (c → hop P call o K cs l) ∧ (¬ c → hop P call o K cs r)
  | _ => False

theorem cval_eq {tm tm' : CTm} (h : ∀ t, tget tm' t = tget tm t) (o : Operand) : cval tm' o = cval tm o := by
  cases o <;> first | rfl | exact h _

theorem hop_out {P : Program} {call : Call} (hS : ue5 P call) {o : Oper} {cs : CS} {K : Hint → CS → Prop} : ∀ (h : Hint), hop P call o K cs h →
    ∃ tm x H n h', (∀ t, tget tm t = tget cs.tm t) ∧ OpOk P o tm cs.H cs.n 0 x H n ∧ K h' ⟨cput tm o.dst x, H, n⟩
  | .run k h, hh => by
    simp only [hop] at hh
    cases k with
    | zero => exact hop_out hS h hh
    | succ k =>
      simp only at hh
      split at hh
      · next x H n hx => rw [fop_eq] at hx; exact ⟨cs.tm, x, H, n, _, fun _ => rfl, ud5 hS hx, hh⟩
      · exact hh.elim
  | .val x h, hh => ⟨cs.tm, x, cs.H, cs.n, h, fun _ => rfl, ud5 ua6 (un1 hh.1), hh.2⟩
  | .new _ x K0 n h, hh => ⟨cs.tm, x, _, n, h, fun _ => rfl, un9 hh.1, hh.2⟩
  | .mem _ x H n h, hh => ⟨cs.tm, x, H, n, h, fun _ => rfl, un9 hh.1, hh.2⟩
  | .sto _ blk h, hh => by
    obtain ⟨b, h1, h2⟩ := stoIs_ok (n := cs.n) hh
    exact ⟨cs.tm, _, _, _, h, fun _ => rfl, h1, h2⟩
  | .app _ len blk h, hh => by
    obtain ⟨sz, H1, h1, h2⟩ := appIs_ok (n := cs.n) hh
    exact ⟨cs.tm, _, _, _, h, fun _ => rfl, h1, h2⟩
  | .br ts l r, hh => by
    simp only [hop] at hh
    split at hh
    · next c a b ho =>
      split at hh
      · next v hv =>
        obtain ⟨h1, h2⟩ := lrnC_out hh
        cases v with
        | true =>
          change (match cval (puts true ts ++ cs.tm) a with | some x => _ | none => _) at h1
          split at h1
          · next x hx =>
            refine ⟨_, x, cs.H, cs.n, l, h2, ud5 ua6 ?_, h1⟩
            rw [cval_eq h2] at hx
            simp only [ho, cop, cval_eq h2, hv, hx]
          · exact h1.elim
        | false =>
          change (match cval (puts false ts ++ cs.tm) b with | some x => _ | none => _) at h1
          split at h1
          · next x hx =>
            refine ⟨_, x, cs.H, cs.n, r, h2, ud5 ua6 ?_, h1⟩
            rw [cval_eq h2] at hx
            simp only [ho, cop, cval_eq h2, hv, hx]
          · exact h1.elim
      · exact hh.elim
    · exact hh.elim
  | .ask c l r, hh => by
    simp only [hop] at hh
    by_cases hc : c
    · exact hop_out hS l (hh.1 hc)
    · exact hop_out hS r (hh.2 hc)
  | .nil, hh => hh.elim
  | .stp _, hh => hh.elim
  | .cut .., hh => hh.elim

def hops (P : Program) (call : Call) (N : Nat) (ops : Array Oper) : List Oper → Hint → CS → (Hint → CS → Prop) → Prop
  | [], h, cs, K => K h cs
  | o :: rest, h, cs, K => match isSmall N o.dst with
    | false => False
    | true => match o.guard with
      | none => hop P call o (fun h cs => hops P call N ops rest h cs K) cs h
      | some (j, want) => match gval ops cs.tm j with
        | some (.tup _) => hops P call N ops rest h ⟨cput cs.tm o.dst (.tup []), cs.H, cs.n⟩ K
        | some (.bool b) => match want with
          | true => tst cs.tm b (fun h ov => hop P call o (fun h cs => hops P call N ops rest h cs K) ⟨ov ++ cs.tm, cs.H, cs.n⟩ h) (fun h ov => hops P call N ops rest h ⟨cput (ov ++ cs.tm) o.dst (.tup []), cs.H, cs.n⟩ K) h
          | false => tst cs.tm b (fun h ov => hops P call N ops rest h ⟨cput (ov ++ cs.tm) o.dst (.tup []), cs.H, cs.n⟩ K) (fun h ov => hop P call o (fun h cs => hops P call N ops rest h cs K) ⟨ov ++ cs.tm, cs.H, cs.n⟩ h) h
        | _ => False

theorem hops_out {P : Program} {call : Call} (hS : ue5 P call) {N : Nat} {ops : Array Oper} : ∀ (rest : List Oper) (h : Hint) (cs : CS) (K : Hint → CS → Prop), hops P call N ops rest h cs K → ∃ h' cs', PRun P N ops rest cs cs' ∧ K h' cs'
  | [], h, cs, K, hh => ⟨h, cs, .nil cs, hh⟩
  | o :: rest, h, cs, K, hh => by
    have run : ∀ {h ov}, (∀ t, tget (ov ++ cs.tm) t = tget cs.tm t) → isSmall N o.dst = true → cwanted ops cs.tm o.guard = some true → hop P call o (fun h cs => hops P call N ops rest h cs K) ⟨ov ++ cs.tm, cs.H, cs.n⟩ h → ∃ h' cs', PRun P N ops (o :: rest) cs cs' ∧ K h' cs' := by
      intro h ov hov hs hw hg
      obtain ⟨tm, x, H, n, h1, ht, h2, h3⟩ := hop_out hS h hg
      obtain ⟨h', cs', h4, h5⟩ := hops_out hS rest _ _ K h3
      have e : ∀ t, tget tm t = tget cs.tm t := fun t => (ht t).trans (hov t)
      exact ⟨h', cs', .learn (tm := tm) e (.op hs (by rw [cwanted_eq e]; exact hw) h2 h4), h5⟩
    have skip : ∀ {h ov}, (∀ t, tget (ov ++ cs.tm) t = tget cs.tm t) → isSmall N o.dst = true → cwanted ops cs.tm o.guard = some false → hops P call N ops rest h ⟨cput (ov ++ cs.tm) o.dst (.tup []), cs.H, cs.n⟩ K → ∃ h' cs', PRun P N ops (o :: rest) cs cs' ∧ K h' cs' := by
      intro h ov hov hs hw hg
      obtain ⟨h', cs', h4, h5⟩ := hops_out hS rest _ _ K hg
      exact ⟨h', cs', .learn (tm := ov ++ cs.tm) hov (.skip hs (by rw [cwanted_eq hov]; exact hw) h4), h5⟩
    simp only [hops] at hh
    split at hh
    · exact hh.elim
    · next hs =>
      split at hh
      · next hg => exact run (ov := []) (fun _ => rfl) hs (by rw [hg]; rfl) hh
      · next j want hg =>
        split at hh
        · next vs hv => exact skip (ov := []) (fun _ => rfl) hs (by rw [hg]; exact gval_tup hv) hh
        · next b hv =>
          have hw := gval_bool (want := want) hv
          cases want with
          | true =>
            obtain ⟨h', ov, hov, ht⟩ := um8 _ hh
            cases b with
            | true => exact run hov hs (by rw [hg]; exact hw) ht
            | false => exact skip hov hs (by rw [hg]; exact hw) ht
          | false =>
            obtain ⟨h', ov, hov, ht⟩ := um8 _ hh
            cases b with
            | true => exact skip hov hs (by rw [hg]; exact hw) ht
            | false => exact run hov hs (by rw [hg]; exact hw) ht
        · exact hh.elim

/-! ### drawn regions. 'lv': what was learned of temporaries -/
theorem selT_eq {tm tm' : CTm} (h : ∀ t, tget tm' t = tget tm t) : ∀ (ts : List Nat), selT tm' ts = selT tm ts
  | [] => rfl
  | t :: r => by simp only [selT, h t, selT_eq h r]

def tdel : CTm → Option Tmp → CTm
  | [], _ => []
  | (t, x) :: r, d => match dstIs ⟨d, .move (.tmp 0), 0, "", #[], none⟩ t with | true => tdel r d | false => (t, x) :: tdel r d

theorem tdel_get {d t : Nat} : ∀ {lv : CTm}, tget (tdel lv (some d)) t = if d = t then none else tget lv t
  | [] => by simp [tdel, uf1]
  | (u, x) :: r => by
    simp only [tdel, dstIs]
    by_cases e : d = u
    · subst e
      rw [Nat.beq_refl]
      simp only
      rw [tdel_get, uc7]
      split <;> rfl
    · have : Nat.beq d u = false := by
        cases h : Nat.beq d u with
        | false => rfl
        | true => exact absurd (Nat.eq_of_beq_eq_true h) e
      rw [this]
      simp only
      rw [uc7, uc7, tdel_get]
      by_cases e2 : u = t
      · subst e2; simp [e]
      · simp [e2]

theorem tdel_none : ∀ (lv : CTm), tdel lv none = lv
  | [] => rfl
  | (u, x) :: r => by simp only [tdel, dstIs, tdel_none r]

theorem lv_put {lv tm : CTm} (h : ∀ t, tget (lv ++ tm) t = tget tm t) (d : Option Tmp) (x : CV) : ∀ t, tget (tdel lv d ++ cput tm d x) t = tget (cput tm d x) t := by
  intro t
  cases d with
  | none => rw [tdel_none]; exact h t
  | some d =>
    rw [tget_append, tdel_get]
    by_cases e : d = t
    · simp [e]
    · have := h t
      rw [tget_append] at this
      simp only [cput, uc7, if_neg e]
      cases hh : tget lv t with
      | none => rfl
      | some y => rw [hh] at this; exact this

/-- an operation of a drawn region -/
def hdop (P : Program) (call : Call) (m : Nat) (lt : Bool) (i : Nat) (o : Oper) (tm : CTm) (s : DS) (K : Hint → DS → Prop) : Hint → Prop
  | .run k h => (match k with
    | 0 => hdop P call m lt i o tm s K h
    | k + 1 => match drun P call 0 m lt i o tm s with
      | some s' => K (.run k h) s'
      | none => False)
  | .val x h => (match isFree o.op with
    | true => ValIs P o.op tm [] x ∧ K h { s with tm := cput s.tm o.dst x }
    | false => match s.l.all (tb m) with
      | false => False
      | true => match lt with
        | false => ValIs P o.op tm (selF m s.F ++ s.B) x ∧ K h ⟨cput s.tm o.dst x, s.B, (i, fresh s.n (selF m s.F ++ s.B)) :: s.F, s.n, i :: s.q, s.l, s.w⟩
        | true => match lookNum tm o.op with
          | none => ValIs P o.op tm [] x ∧ K h { s with tm := cput s.tm o.dst x }
          | some c => match hget s.B c with
            | some blk => ValIs P o.op tm [(c, blk)] x ∧ K h { s with tm := cput s.tm o.dst x, w := (i, c) :: s.w }
            | none => False)
  | .new loud x K0 n' h => (match s.l.all (tb m) with
    | false => False
    | true => match loud with
      | false => MemIs P o.op tm (selF m s.F ++ s.B) s.n s.n x (K0 ++ (selF m s.F ++ s.B)) n' ∧ K h ⟨cput s.tm o.dst x, s.B, (i, fresh s.n (K0 ++ (selF m s.F ++ s.B))) :: s.F, n', i :: s.q, s.l, s.w⟩
      | true => match s.q.all (tb m) with
        | false => False
        | true => MemIs P o.op tm (hideAll (atOnce m s.w) (allF s.F ++ s.B)) s.n 0 x (K0 ++ hideAll (atOnce m s.w) (allF s.F ++ s.B)) n' ∧
            K h ⟨cput s.tm o.dst x, keepAll (atOnce m s.w) (allF s.F ++ s.B) ++ (K0 ++ hideAll (atOnce m s.w) (allF s.F ++ s.B)), [], n', [], i :: s.l, s.w⟩)
  | .mem loud x H' n' h => (match s.l.all (tb m) with
    | false => False
    | true => match loud with
      | false => MemIs P o.op tm (selF m s.F ++ s.B) s.n s.n x H' n' ∧ K h ⟨cput s.tm o.dst x, s.B, (i, fresh s.n H') :: s.F, n', i :: s.q, s.l, s.w⟩
      | true => match s.q.all (tb m) with
        | false => False
        | true => MemIs P o.op tm (hideAll (atOnce m s.w) (allF s.F ++ s.B)) s.n 0 x H' n' ∧ K h ⟨cput s.tm o.dst x, keepAll (atOnce m s.w) (allF s.F ++ s.B) ++ H', [], n', [], i :: s.l, s.w⟩)
  | .sto _ blk h => (match s.l.all (tb m) && s.q.all (tb m) with
    | false => False
    | true => StoIs P o.op tm (hideAll (atOnce m s.w) (allF s.F ++ s.B)) 0 blk fun b => K h ⟨cput s.tm o.dst (.tup []), keepAll (atOnce m s.w) (allF s.F ++ s.B) ++ hset (hideAll (atOnce m s.w) (allF s.F ++ s.B)) b blk, [], s.n, [], i :: s.l, s.w⟩)
  | .app loud len blk h => (match s.l.all (tb m) with
    | false => False
    | true => match loud with
      | false => AppIs P o.op tm (selF m s.F ++ s.B) s.n len blk fun sz H1 => K h ⟨cput s.tm o.dst (.slice sz s.n 0 len none), s.B, (i, fresh s.n ((s.n, blk) :: H1)) :: s.F, s.n + 1, i :: s.q, s.l, s.w⟩
      | true => match s.q.all (tb m) with
        | false => False
        | true => AppIs P o.op tm (hideAll (atOnce m s.w) (allF s.F ++ s.B)) 0 len blk fun sz H1 => K h ⟨cput s.tm o.dst (.slice sz s.n 0 len none), keepAll (atOnce m s.w) (allF s.F ++ s.B) ++ ((s.n, blk) :: H1), [], s.n + 1, [], i :: s.l, s.w⟩)
  | .ask c l r => (c → hdop P call m lt i o tm s K l) ∧ (¬ c → hdop P call m lt i o tm s K r)
  | _ => False

theorem hdop_out {P : Program} {call : Call} (hS : ue5 P call) {N : Nat} {ops : Array Oper} {m : Nat} {lt : Bool} {i : Nat} {o : Oper} {s : DS} {K : Hint → DS → Prop} (hs : isSmall N o.dst = true) (hw : cwanted ops (selT s.tm (looks ops o)) o.guard = some true) :
    ∀ (h : Hint), hdop P call m lt i o (selT s.tm (looks ops o)) s K h → ∃ k s' h' x, DK P 0 ops m i o s k s' ∧ s'.tm = cput s.tm o.dst x ∧ K h' s' := by
  have bits : ∀ {l : List Nat}, l.all (tb m) = true → ∀ j ∈ l, m.testBit j = true := by
    intro l hl j hj
    rw [List.all_eq_true] at hl
    have := hl j hj
    rwa [tb_eq] at this
  intro h
  induction h with
  | run k h ih =>
    intro hh
    simp only [hdop] at hh
    cases k with
    | zero => exact ih hh
    | succ k =>
      simp only at hh
      split at hh
      · next s' hx =>
        have hd : dstep P call 0 0 ops m lt i o s = dstep P call 0 0 ops m lt i o s := rfl
        have hd : dstep P call N 0 ops m lt i o s = some s' := by simp only [dstep, hs, hw, if_true]; exact hx
        obtain ⟨_, k, hk⟩ := dstep_kinds hS hd
        obtain ⟨x, hx⟩ : ∃ x, s'.tm = cput s.tm o.dst x := by cases hk <;> exact ⟨_, rfl⟩
        exact ⟨k, s', _, x, hk, hx, hh⟩
      · exact hh.elim
  | val x h _ =>
    intro hh
    simp only [hdop] at hh
    split at hh
    · exact ⟨0, _, h, x, .free x hw (ud5 ua6 (un1 hh.1)), rfl, hh.2⟩
    · split at hh
      · exact hh.elim
      · next hl =>
        split at hh
        · exact ⟨1, _, h, x, .quiet x _ _ hw (bits hl) (ud5 ua6 (un1 hh.1)), rfl, hh.2⟩
        · split at hh
          · exact ⟨0, _, h, x, .free x hw (ud5 ua6 (un1 hh.1)), rfl, hh.2⟩
          · next c hc =>
            split at hh
            · next blk hb => exact ⟨3, _, h, x, .watch x c blk _ hw (bits hl) hb (ud5 ua6 (un1 hh.1)), rfl, hh.2⟩
            · exact hh.elim
  | new loud x K0 n' h _ =>
    intro hh
    simp only [hdop] at hh
    split at hh
    · exact hh.elim
    · next hl =>
      split at hh
      · exact ⟨1, _, h, x, .quiet x _ n' hw (bits hl) (un9 hh.1), rfl, hh.2⟩
      · split at hh
        · exact hh.elim
        · next hq => exact ⟨2, _, h, x, .loud x _ n' hw (bits hl) (bits hq) (un9 hh.1), rfl, hh.2⟩
  | mem loud x H' n' h _ =>
    intro hh
    simp only [hdop] at hh
    split at hh
    · exact hh.elim
    · next hl =>
      split at hh
      · exact ⟨1, _, h, x, .quiet x H' n' hw (bits hl) (un9 hh.1), rfl, hh.2⟩
      · split at hh
        · exact hh.elim
        · next hq => exact ⟨2, _, h, x, .loud x H' n' hw (bits hl) (bits hq) (un9 hh.1), rfl, hh.2⟩
  | sto loud blk h _ =>
    intro hh
    simp only [hdop] at hh
    split at hh
    · exact hh.elim
    · next hl =>
      rw [Bool.and_eq_true] at hl
      obtain ⟨b, h1, h2⟩ := stoIs_ok (n := s.n) hh
      exact ⟨2, _, h, _, .loud _ _ _ hw (bits hl.1) (bits hl.2) h1, rfl, h2⟩
  | app loud len blk h _ =>
    intro hh
    simp only [hdop] at hh
    split at hh
    · exact hh.elim
    · next hl =>
      split at hh
      · obtain ⟨sz, H1, h1, h2⟩ := appIs_ok (n := s.n) hh
        exact ⟨1, _, h, _, .quiet _ _ _ hw (bits hl) h1, rfl, h2⟩
      · split at hh
        · exact hh.elim
        · next hq =>
          obtain ⟨sz, H1, h1, h2⟩ := appIs_ok (n := s.n) hh
          exact ⟨2, _, h, _, .loud _ _ _ hw (bits hl) (bits hq) h1, rfl, h2⟩
  | ask c l r ih1 ih2 =>
    intro hh
    simp only [hdop] at hh
    by_cases hc : c
    · exact ih1 (hh.1 hc)
    · exact ih2 (hh.2 hc)
  | _ => intro hh; exact hh.elim

def hdops (P : Program) (call : Call) (N : Nat) (ops : Array Oper) : List Oper → List Nat → Nat → Hint → CTm → DS → (Hint → CTm → DS → Prop) → Prop
  | [], _, _, h, lv, s, K => K h lv s
  | _ :: _, [], _, _, _, _, _ => False
  | o :: r, m :: ms, i, h, lv, s, K => match isSmall N o.dst with
    | false => False
    | true => match o.guard with
      | none => hdop P call m (late i r ms) i o (selT (lv ++ s.tm) (looks ops o)) s (fun h s => hdops P call N ops r ms (i + 1) h (tdel lv o.dst) s K) h
      | some (j, want) => match gval ops (selT (lv ++ s.tm) (looks ops o)) j with
        | some (.tup _) => hdops P call N ops r ms (i + 1) h (tdel lv o.dst) { s with tm := cput s.tm o.dst (.tup []) } K
        | some (.bool b) => match want with
          | true => tst (lv ++ s.tm) b (fun h ov => hdop P call m (late i r ms) i o (selT (ov ++ (lv ++ s.tm)) (looks ops o)) s (fun h s => hdops P call N ops r ms (i + 1) h (tdel (ov ++ lv) o.dst) s K) h)
              (fun h ov => hdops P call N ops r ms (i + 1) h (tdel (ov ++ lv) o.dst) { s with tm := cput s.tm o.dst (.tup []) } K) h
          | false => tst (lv ++ s.tm) b (fun h ov => hdops P call N ops r ms (i + 1) h (tdel (ov ++ lv) o.dst) { s with tm := cput s.tm o.dst (.tup []) } K)
              (fun h ov => hdop P call m (late i r ms) i o (selT (ov ++ (lv ++ s.tm)) (looks ops o)) s (fun h s => hdops P call N ops r ms (i + 1) h (tdel (ov ++ lv) o.dst) s K) h) h
        | _ => False

theorem hdops_out {P : Program} {call : Call} (hS : ue5 P call) {N : Nat} {ops : Array Oper} : ∀ (rest : List Oper) (ms : List Nat) (i : Nat) (h : Hint) (lv : CTm) (s : DS) (K : Hint → CTm → DS → Prop), (∀ t, tget (lv ++ s.tm) t = tget s.tm t) → hdops P call N ops rest ms i h lv s K →
    ∃ h' lv' s', DRun P N ops rest ms i s s' ∧ (∀ t, tget (lv' ++ s'.tm) t = tget s'.tm t) ∧ K h' lv' s'
  | [], ms, i, h, lv, s, K, hlv, hh => ⟨h, lv, s, .nil s, hlv, hh⟩
  | _ :: _, [], i, h, lv, s, K, hlv, hh => hh.elim
  | o :: rest, m :: ms, i, h, lv, s, K, hlv, hh => by
    have run : ∀ {h ov}, (∀ t, tget (ov ++ (lv ++ s.tm)) t = tget (lv ++ s.tm) t) → isSmall N o.dst = true → cwanted ops (selT s.tm (looks ops o)) o.guard = some true →
        hdop P call m (late i rest ms) i o (selT (ov ++ (lv ++ s.tm)) (looks ops o)) s (fun h s => hdops P call N ops rest ms (i + 1) h (tdel (ov ++ lv) o.dst) s K) h →
        ∃ h' lv' s', DRun P N ops (o :: rest) (m :: ms) i s s' ∧ (∀ t, tget (lv' ++ s'.tm) t = tget s'.tm t) ∧ K h' lv' s' := by
      intro h ov hov hs hw hg
      have e : ∀ t, tget (ov ++ (lv ++ s.tm)) t = tget s.tm t := fun t => (hov t).trans (hlv t)
      rw [selT_eq e] at hg
      obtain ⟨k, s1, h1, x, h2, hx, h3⟩ := hdop_out hS hs hw h hg
      have e' : ∀ t, tget ((ov ++ lv) ++ s.tm) t = tget s.tm t := by rw [List.append_assoc]; exact e
      obtain ⟨h', lv', s', h4, h5, h6⟩ := hdops_out hS rest ms (i + 1) _ _ _ K (by rw [hx]; exact lv_put e' o.dst x) h3
      exact ⟨h', lv', s', .step hs h2 h4, h5, h6⟩
    have skip : ∀ {h ov}, (∀ t, tget (ov ++ (lv ++ s.tm)) t = tget (lv ++ s.tm) t) → isSmall N o.dst = true → cwanted ops (selT s.tm (looks ops o)) o.guard = some false →
        hdops P call N ops rest ms (i + 1) h (tdel (ov ++ lv) o.dst) { s with tm := cput s.tm o.dst (.tup []) } K →
        ∃ h' lv' s', DRun P N ops (o :: rest) (m :: ms) i s s' ∧ (∀ t, tget (lv' ++ s'.tm) t = tget s'.tm t) ∧ K h' lv' s' := by
      intro h ov hov hs hw hg
      have e : ∀ t, tget (ov ++ (lv ++ s.tm)) t = tget s.tm t := fun t => (hov t).trans (hlv t)
      have e' : ∀ t, tget ((ov ++ lv) ++ s.tm) t = tget s.tm t := by rw [List.append_assoc]; exact e
      obtain ⟨h', lv', s', h4, h5, h6⟩ := hdops_out hS rest ms (i + 1) _ _ _ K (lv_put e' o.dst (.tup [])) hg
      exact ⟨h', lv', s', .step hs (.skip hw) h4, h5, h6⟩
    simp only [hdops] at hh
    have hsel : selT (lv ++ s.tm) (looks ops o) = selT s.tm (looks ops o) := selT_eq hlv _
    split at hh
    · exact hh.elim
    · next hs =>
      split at hh
      · next hg => exact run (ov := []) (fun _ => rfl) hs (by rw [hg]; rfl) hh
      · next j want hg =>
        rw [hsel] at hh
        split at hh
        · next vs hv => exact skip (ov := []) (fun _ => rfl) hs (by rw [hg]; exact gval_tup hv) hh
        · next b hv =>
          have hw := gval_bool (want := want) hv
          cases want with
          | true =>
            obtain ⟨h', ov, hov, ht⟩ := um8 _ hh
            cases b with
            | true => exact run hov hs (by rw [hg]; exact hw) ht
            | false => exact skip hov hs (by rw [hg]; exact hw) ht
          | false =>
            obtain ⟨h', ov, hov, ht⟩ := um8 _ hh
            cases b with
            | true => exact skip hov hs (by rw [hg]; exact hw) ht
            | false => exact run hov hs (by rw [hg]; exact hw) ht
        · exact hh.elim

/-- whatever the function does from cs', it does from cs -/
def Wk (n0 top : Nat) (cs cs' : CS) : Prop :=
  cs.n ≤ top ∧ n0 ≤ cs'.n ∧ ∀ (P : Program) (f : FuncId) (N : Nat) (todo : List Item) (Q : CV → ua8 → Prop), Goes P f N n0 top todo cs' Q → Goes P f N n0 top todo cs Q

/-- the walk -/
def hw (P : Program) (call : Call) (fn : Func) (n0 top : Nat) : Nat → List Item → Hint → CS → (CV → ua8 → Nat → Prop) → (List Item → CS → Prop) → Prop
  | 0, _, _, _, _, _ => False
  | f + 1, todo, h, cs, R, L => match h.norm with
    | .stp n => (match n with
      | 0 => L todo cs
      | n + 1 => match todo with
        | [] => False
        | i :: r => match fitem i P call fn.ntmps 0 r cs with
          | some (t, cs') => hw P call fn n0 top f t (.stp n) cs' R L
          | none => False)
    | .cut ts pi fl n h => cutK n0 top ts pi fl [] n cs fun cs' => hw P call fn n0 top f todo h cs' R L
    | .cutm ts pi fl mx n h => cutK n0 top ts pi fl mx n cs fun cs' => hw P call fn n0 top f todo h cs' R L
    | .wk tm H n h => Wk n0 top cs ⟨tm, H, n⟩ ∧ hw P call fn n0 top f todo h ⟨tm, H, n⟩ R L
    | .ask c l r => (c → hw P call fn n0 top f todo l cs R L) ∧ (¬ c → hw P call fn n0 top f todo r cs R L)
    | h => match cret todo with
      | true => (match cresult cs.tm P cs.H fn with
        | some x => R x cs.H cs.n
        | none => False)
      | false => match todo with
        | [] => False
        | i :: r => match i with
          | .code c => (match c with
            | .cond c t e => (match cval cs.tm c with
              | some (.bool b) => tst cs.tm b (fun h ov => hw P call fn n0 top f (.code t :: r) h ⟨ov ++ cs.tm, cs.H, cs.n⟩ R L) (fun h ov => hw P call fn n0 top f (.code e :: r) h ⟨ov ++ cs.tm, cs.H, cs.n⟩ R L) h
              | _ => False)
            | .region _ ops false => hops P call fn.ntmps ops ops.toList h cs fun h cs => hw P call fn n0 top f r h cs R L
            | .region _ ops true => (match drawOk P ops with
              | true => hdops P call fn.ntmps ops ops.toList (bits ops) 0 h [] ⟨cs.tm, cs.H, [], cs.n, [], [], []⟩ fun h lv s => hw P call fn n0 top f r h ⟨lv ++ s.tm, allF s.F ++ s.B, s.n⟩ R L
              | false => False)
            | c => (match fcode c P call fn.ntmps 0 r cs with
              | some (t, cs') => hw P call fn n0 top f t h cs' R L
              | none => False))
          | i => (match fitem i P call fn.ntmps 0 r cs with
            | some (t, cs') => hw P call fn n0 top f t h cs' R L
            | none => False)

section
variable {P : Program}

theorem goes_teq {f : FuncId} {N n0 top : Nat} {todo : List Item} {cs : CS} {tm : CTm} {Q : CV → ua8 → Prop} (h : ∀ t, tget tm t = tget cs.tm t) (hg : Goes P f N n0 top todo ⟨tm, cs.H, cs.n⟩ Q) : Goes P f N n0 top todo cs Q := by
  intro E0 E a b callers h1 h2 h3 h4 h5 h6 h7
  exact hg E0 E a b callers h1 h2 h3 h4 h5 ⟨h6.heap, h6.keys, fun t x hx => h6.tmps t x (by rw [← h t]; exact hx), h6.size, h6.defers⟩ h7

theorem um5 {call : Call} (hS : ue5 P call) {f : FuncId} {fn : Func} (hf : P.funcs[f]? = some fn) {n0 top : Nat} {Q : CV → ua8 → Prop} : ∀ (k : Nat) (todo : List Item) (h : Hint) (cs : CS),
    hw P call fn n0 top k todo h cs (fun x H n => n ≤ top ∧ Q x H) (fun t c => c.n ≤ top ∧ Goes P f fn.ntmps n0 top t c Q) → n0 ≤ cs.n → cs.n ≤ top ∧ Goes P f fn.ntmps n0 top todo cs Q
  | 0, todo, h, cs, hh, hn => hh.elim
  | k + 1, todo, h, cs, hh, hn => by
    have stp : ∀ {t c} {h}, fstep P call fn.ntmps 0 todo cs = some (t, c) → hw P call fn n0 top k t h c (fun x H n => n ≤ top ∧ Q x H) (fun t c => c.n ≤ top ∧ Goes P f fn.ntmps n0 top t c Q) → cs.n ≤ top ∧ Goes P f fn.ntmps n0 top todo cs Q := by
      intro t c h hst hw
      rw [fstep_eq] at hst
      have hk := un0 hS hst
      obtain ⟨h1, h2⟩ := um5 hS hf k t h c hw (Nat.le_trans hn hk.1)
      exact ⟨Nat.le_trans hk.1 h1, um0 hS hst hn h1 h2⟩
    simp only [hw] at hh
    split at hh
    · split at hh
      · exact hh
      · split at hh
        · exact hh.elim
        · split at hh
          · next hst => exact stp (by simp only [fstep]; exact hst) hh
          · exact hh.elim
    · obtain ⟨cs', hh, c1, c2, c3, c4⟩ := cut_cs hh
      obtain ⟨_, h4⟩ := um5 hS hf k todo _ cs' hh c2
      exact ⟨c1, goes_cut c4 h4⟩
    · obtain ⟨cs', hh, c1, c2, c3, c4⟩ := cut_cs hh
      obtain ⟨_, h4⟩ := um5 hS hf k todo _ cs' hh c2
      exact ⟨c1, goes_cut c4 h4⟩
    · obtain ⟨⟨c1, c2, c3⟩, hh⟩ := hh
      exact ⟨c1, c3 _ _ _ _ _ (um5 hS hf k todo _ _ hh c2).2⟩
    · next c l r _ =>
      by_cases hc : c
      · exact um5 hS hf k todo _ cs (hh.1 hc) hn
      · exact um5 hS hf k todo _ cs (hh.2 hc) hn
    · split at hh
      · next hr =>
        split at hh
        · next x hx => exact ⟨hh.1, goes_ret hf hr hx hh.2⟩
        · exact hh.elim
      · cases todo with
        | nil => exact hh.elim
        | cons i r =>
          dsimp only at hh
          cases i with
          | code c =>
            dsimp only at hh
            cases c with
            | cond c t e =>
              dsimp only at hh
              split at hh
              · next b hb =>
                obtain ⟨h', ov, hov, ht⟩ := um8 _ hh
                cases b with
                | true =>
                  obtain ⟨g1, g2⟩ := um5 hS hf k _ h' _ ht hn
                  exact ⟨g1, um0 hS (lo := 0) (show cstepD P call fn.ntmps 0 _ cs = some (.code t :: r, cs) by simp only [cstepD, cstep, hb]) hn g1 (goes_teq hov g2)⟩
                | false =>
                  obtain ⟨g1, g2⟩ := um5 hS hf k _ h' _ ht hn
                  exact ⟨g1, um0 hS (lo := 0) (show cstepD P call fn.ntmps 0 _ cs = some (.code e :: r, cs) by simp only [cstepD, cstep, hb]) hn g1 (goes_teq hov g2)⟩
              · exact hh.elim
            | region id ops d =>
              cases d with
              | false =>
                dsimp only at hh
                obtain ⟨h', cs', h1, h2⟩ := hops_out hS _ _ _ _ hh
                have hk := prun_takes (id := id) h1
                obtain ⟨h3, h4⟩ := um5 hS hf k r h' cs' h2 (Nat.le_trans hn hk.1)
                exact ⟨Nat.le_trans hk.1 h3, uo0 hk hn h3 h4⟩
              | true =>
                dsimp only at hh
                split at hh
                · next hd =>
                  obtain ⟨h', lv, s, h1, hlv, h2⟩ := hdops_out hS _ _ _ _ _ _ _ (fun _ => rfl) hh
                  have hle := drun_keeps h1
                  obtain ⟨h3, h4⟩ := um5 hS hf k r h' _ h2 (Nat.le_trans hn hle)
                  exact ⟨Nat.le_trans hle h3, goes_takes' (fun hkeys => drun_takes hd h1 hkeys) hn h3 (goes_teq hlv h4)⟩
                · exact hh.elim
            | _ =>
              dsimp only at hh
              split at hh
              · next t c' hst => exact stp (by simp only [fstep, fitem]; exact hst) hh
              · exact hh.elim
          | _ =>
            dsimp only at hh
            split at hh
            · next t c' hst => exact stp (by simp only [fstep]; exact hst) hh
            · exact hh.elim

/-- walk on -/
theorem ub3 {call : Call} (hS : ue5 P call) {f : FuncId} {fn : Func} (hf : P.funcs[f]? = some fn) (k : Nat) (h : Hint) {n0 top : Nat} {todo : List Item} {cs : CS} {Q : CV → ua8 → Prop} (hn : n0 ≤ cs.n)
    (hh : hw P call fn n0 top k todo h cs (fun x H n => n ≤ top ∧ Q x H) (fun t c => c.n ≤ top ∧ Goes P f fn.ntmps n0 top t c Q)) : Goes P f fn.ntmps n0 top todo cs Q :=
  (um5 hS hf k todo h cs hh hn).2

end
end Go.Cn
end
