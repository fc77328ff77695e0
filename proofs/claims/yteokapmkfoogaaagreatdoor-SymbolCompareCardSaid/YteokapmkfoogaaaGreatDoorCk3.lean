/- The canonical calculus: walks along hints, reckoned by the kernel. -/
import Derived.Test.YteokapmkfoogaaaGreatDoorCk2
set_option linter.unusedVariables false
set_option linter.unusedSimpArgs false
noncomputable section
namespace Go.Cn

/-- what a walk is told ahead. 'run k': the next k operations and tests are reckoned; 'val': what the next operation, which only reads, comes to; 'new': the next one makes these blocks; 'mem': the memory behind the next one; 'sto': the block behind a store; 'app': the length and the block behind an append;
    'br': the next test is open, and these temporaries hold the same; 'ask': two ways, by a proposition; 'cut': forget and renumber; 'cutm': blocks are told there; 'wk': go on from another state, told; 'stp n': n steps of the control on, the walk ends -/
inductive Hint where
  | nil
  | stp (n : Nat)
  | run (k : Nat) (h : Hint)
  | val (x : CV) (h : Hint)
  | new (loud : Bool) (x : CV) (K : CHeap) (n : Nat) (h : Hint)
  | mem (loud : Bool) (x : CV) (H : CHeap) (n : Nat) (h : Hint)
  | sto (loud : Bool) (blk : List CV) (h : Hint)
  | app (loud : Bool) (len : Nat) (blk : List CV) (h : Hint)
  | br (ts : List Nat) (l r : Hint)
  | ask (c : Prop) (l r : Hint)
  | cut (ts : List Nat) (pi : List (Nat × Nat)) (fl : List Nat) (n : Nat) (h : Hint)
  | cutm (ts : List Nat) (pi : List (Nat × Nat)) (fl : List Nat) (mx : CHeap) (n : Nat) (h : Hint)
  | wk (tm : CTm) (H : CHeap) (n : Nat) (h : Hint)

def Hint.norm : Hint → Hint
  | .run 0 h => h.norm
  | h => h

def BIf (b : Bool) (X Y : Unit → Prop) : Prop := match b with | true => X () | false => Y ()

/-- these temporaries hold b -/
def lrnC (tm : CTm) (b : Bool) (K : Prop) : List Nat → Prop
  | [] => K
  | t :: r => match tget tm t with
    | some (.bool b') => b' = b ∧ lrnC tm b K r
    | _ => False

def puts (v : Bool) : List Nat → CTm
  | [] => []
  | t :: r => (t, .bool v) :: puts v r

theorem tget_append (a b : CTm) (t : Nat) : tget (a ++ b) t = match tget a t with | some x => some x | none => tget b t := by
  induction a with
  | nil => rfl
  | cons p a ih =>
    obtain ⟨c, x⟩ := p
    rw [List.cons_append, tget_cons, tget_cons]
    split
    · rfl
    · exact ih

theorem lrnC_out {tm : CTm} {b : Bool} {K : Prop} : ∀ {ts : List Nat}, lrnC tm b K ts → K ∧ ∀ t, tget (puts b ts ++ tm) t = tget tm t
  | [], h => ⟨h, fun t => rfl⟩
  | u :: r, h => by
    simp only [lrnC] at h
    split at h <;> try exact h.elim
    next b' hb =>
    obtain ⟨rfl, h⟩ := h
    obtain ⟨h1, h2⟩ := lrnC_out h
    refine ⟨h1, fun t => ?_⟩
    show tget ((u, .bool b') :: (puts b' r ++ tm)) t = _
    rw [tget_cons]
    split
    · next e => subst e; exact hb.symm
    · exact h2 t

def tst (tm : CTm) (b : Bool) (X Y : Hint → CTm → Prop) : Hint → Prop
  | .run k h => (match k with
    | 0 => tst tm b X Y h
    | k + 1 => match b with | true => X (.run k h) [] | false => Y (.run k h) [])
  | .br ts l r => lrnC tm b (BIf b (fun _ => X l (puts true ts)) (fun _ => Y r (puts false ts))) ts
  | .ask c l r => (c → tst tm b X Y l) ∧ (¬ c → tst tm b X Y r)
  | _ => False

theorem tst_out {tm : CTm} {b : Bool} {X Y : Hint → CTm → Prop} : ∀ (h : Hint), tst tm b X Y h → ∃ h' ov, (∀ t, tget (ov ++ tm) t = tget tm t) ∧ match b with | true => X h' ov | false => Y h' ov
  | .run k h, ht => by
    simp only [tst] at ht
    cases k with
    | zero => exact tst_out h ht
    | succ k => cases b with | true => exact ⟨_, _, fun _ => rfl, ht⟩ | false => exact ⟨_, _, fun _ => rfl, ht⟩
  | .br ts l r, ht => by
    simp only [tst] at ht
    obtain ⟨h1, h2⟩ := lrnC_out ht
    cases b with | true => exact ⟨_, _, h2, h1⟩ | false => exact ⟨_, _, h2, h1⟩
  | .ask c l r, ht => by
    simp only [tst] at ht
    by_cases hc : c
    · exact tst_out l (ht.1 hc)
    · exact tst_out r (ht.2 hc)
  | .nil, ht => ht.elim
  | .stp _, ht => ht.elim
  | .val .., ht => ht.elim
  | .new .., ht => ht.elim
  | .mem .., ht => ht.elim
  | .sto .., ht => ht.elim
  | .app .., ht => ht.elim
  | .cut .., ht => ht.elim

/-- the Bool that a guard looks at -/
def gval (ops : Array Oper) (tm : CTm) (j : Nat) : Option CV := match ops[j]? with
  | none => some (.tup [])
  | some o => match o.dst with
    | none => some (.tup [])
    | some t => tget tm t

theorem gval_tup {ops : Array Oper} {tm : CTm} {j : Nat} {want : Bool} {vs : List CV} (hv : gval ops tm j = some (.tup vs)) : cwanted ops tm (some (j, want)) = some false := by
  unfold gval at hv
  simp only [cwanted]
  cases hj : ops[j]? with
  | none => rfl
  | some o' =>
    simp only [hj] at hv ⊢
    cases hd : o'.dst with
    | none => rfl
    | some t => simp only [hd] at hv ⊢; rw [hv]

theorem gval_bool {ops : Array Oper} {tm : CTm} {j : Nat} {want b : Bool} (hv : gval ops tm j = some (.bool b)) : cwanted ops tm (some (j, want)) = some (b == want) := by
  unfold gval at hv
  simp only [cwanted]
  cases hj : ops[j]? with
  | none => simp [hj] at hv
  | some o' =>
    simp only [hj] at hv ⊢
    cases hd : o'.dst with
    | none => simp [hd] at hv
    | some t => simp only [hd] at hv ⊢; rw [hv]

theorem gval_eq {ops : Array Oper} {tm tm' : CTm} (h : ∀ t, tget tm' t = tget tm t) (j : Nat) : gval ops tm' j = gval ops tm j := by
  unfold gval
  cases ops[j]? with
  | none => rfl
  | some o => simp only; cases o.dst with | none => rfl | some t => exact h t

theorem cwanted_eq {ops : Array Oper} {tm tm' : CTm} (h : ∀ t, tget tm' t = tget tm t) (g : Option (Nat × Bool)) : cwanted ops tm' g = cwanted ops tm g := by
  unfold cwanted
  cases g with
  | none => rfl
  | some p =>
    obtain ⟨j, want⟩ := p
    simp only
    cases ops[j]? with
    | none => rfl
    | some o => simp only; cases o.dst with | none => rfl | some t => simp only [h t]

def hop (P : Program) (call : Call) (o : Oper) (K : Hint → CS → Prop) (cs : CS) : Hint → Prop
  | .run k h => (match k with
    | 0 => hop P call o K cs h
    | k + 1 => match fop o.op P call cs.tm cs.H cs.n 0 with
      | some (x, H, n) => K (.run k h) ⟨cput cs.tm o.dst x, H, n⟩
      | none => False)
  | .val x h => ValIs P o.op cs.tm cs.H x ∧ K h ⟨cput cs.tm o.dst x, cs.H, cs.n⟩
  | .new _ x K0 n h => MemIs P o.op cs.tm cs.H cs.n 0 x (K0 ++ cs.H) n ∧ K h ⟨cput cs.tm o.dst x, K0 ++ cs.H, n⟩
  | .mem _ x H n h => MemIs P o.op cs.tm cs.H cs.n 0 x H n ∧ K h ⟨cput cs.tm o.dst x, H, n⟩
  | .sto _ blk h => StoIs P o.op cs.tm cs.H 0 blk fun b => K h ⟨cput cs.tm o.dst (.tup []), hset cs.H b blk, cs.n⟩
  | .app _ len blk h => AppIs P o.op cs.tm cs.H 0 len blk fun sz H1 => K h ⟨cput cs.tm o.dst (.slice sz cs.n 0 len none), (cs.n, blk) :: H1, cs.n + 1⟩
  | .br ts l r => (match o.op with
    | .pick c a b => (match cval cs.tm c with
      | some (.bool v) => lrnC cs.tm v (BIf v
          (fun _ => match cval (puts true ts ++ cs.tm) a with | some x => K l ⟨cput (puts true ts ++ cs.tm) o.dst x, cs.H, cs.n⟩ | none => False)
          (fun _ => match cval (puts false ts ++ cs.tm) b with | some x => K r ⟨cput (puts false ts ++ cs.tm) o.dst x, cs.H, cs.n⟩ | none => False)) ts
      | _ => False)
    | _ => False)
  | .ask c l r => (c → hop P call o K cs l) ∧ (¬ c → hop P call o K cs r)
  | _ => False

theorem cval_eq {tm tm' : CTm} (h : ∀ t, tget tm' t = tget tm t) (o : Operand) : cval tm' o = cval tm o := by
  cases o <;> first | rfl | exact h _

theorem hop_out {P : Program} {call : Call} (hS : Sound P call) {o : Oper} {cs : CS} {K : Hint → CS → Prop} : ∀ (h : Hint), hop P call o K cs h →
    ∃ tm x H n h', (∀ t, tget tm t = tget cs.tm t) ∧ OpOk P o tm cs.H cs.n 0 x H n ∧ K h' ⟨cput tm o.dst x, H, n⟩
  | .run k h, hh => by
    simp only [hop] at hh
    cases k with
    | zero => exact hop_out hS h hh
    | succ k =>
      simp only at hh
      split at hh
      · next x H n hx => rw [fop_eq] at hx; exact ⟨cs.tm, x, H, n, _, fun _ => rfl, opOk_of hS hx, hh⟩
      · exact hh.elim
  | .val x h, hh => ⟨cs.tm, x, cs.H, cs.n, h, fun _ => rfl, opOk_of noCall_sound (valIs_cop hh.1), hh.2⟩
  | .new _ x K0 n h, hh => ⟨cs.tm, x, _, n, h, fun _ => rfl, memIs_ok hh.1, hh.2⟩
  | .mem _ x H n h, hh => ⟨cs.tm, x, H, n, h, fun _ => rfl, memIs_ok hh.1, hh.2⟩
  | .sto _ blk h, hh => by
    obtain ⟨b, h1, h2⟩ := stoIs_ok (n := cs.n) hh
    exact ⟨cs.tm, _, _, _, h, fun _ => rfl, h1, h2⟩
  | .app _ len blk h, hh => by
    obtain ⟨sz, H1, h1, h2⟩ := appIs_ok (n := cs.n) hh
    exact ⟨cs.tm, _, _, _, h, fun _ => rfl, h1, h2⟩
  | .br ts l r, hh => by
    simp only [hop] at hh
    split at hh
    · next c a b ho =>
      split at hh
      · next v hv =>
        obtain ⟨h1, h2⟩ := lrnC_out hh
        cases v with
        | true =>
          change (match cval (puts true ts ++ cs.tm) a with | some x => _ | none => _) at h1
          split at h1
          · next x hx =>
            refine ⟨_, x, cs.H, cs.n, l, h2, opOk_of noCall_sound ?_, h1⟩
            rw [cval_eq h2] at hx
            simp only [ho, cop, cval_eq h2, hv, hx]
          · exact h1.elim
        | false =>
          change (match cval (puts false ts ++ cs.tm) b with | some x => _ | none => _) at h1
          split at h1
          · next x hx =>
            refine ⟨_, x, cs.H, cs.n, r, h2, opOk_of noCall_sound ?_, h1⟩
            rw [cval_eq h2] at hx
            simp only [ho, cop, cval_eq h2, hv, hx]
          · exact h1.elim
      · exact hh.elim
    · exact hh.elim
  | .ask c l r, hh => by
    simp only [hop] at hh
    by_cases hc : c
    · exact hop_out hS l (hh.1 hc)
    · exact hop_out hS r (hh.2 hc)
  | .nil, hh => hh.elim
  | .stp _, hh => hh.elim
  | .cut .., hh => hh.elim

def hops (P : Program) (call : Call) (N : Nat) (ops : Array Oper) : List Oper → Hint → CS → (Hint → CS → Prop) → Prop
  | [], h, cs, K => K h cs
  | o :: rest, h, cs, K => match isSmall N o.dst with
    | false => False
    | true => match o.guard with
      | none => hop P call o (fun h cs => hops P call N ops rest h cs K) cs h
      | some (j, want) => match gval ops cs.tm j with
        | some (.tup _) => hops P call N ops rest h ⟨cput cs.tm o.dst (.tup []), cs.H, cs.n⟩ K
        | some (.bool b) => match want with
          | true => tst cs.tm b (fun h ov => hop P call o (fun h cs => hops P call N ops rest h cs K) ⟨ov ++ cs.tm, cs.H, cs.n⟩ h) (fun h ov => hops P call N ops rest h ⟨cput (ov ++ cs.tm) o.dst (.tup []), cs.H, cs.n⟩ K) h
          | false => tst cs.tm b (fun h ov => hops P call N ops rest h ⟨cput (ov ++ cs.tm) o.dst (.tup []), cs.H, cs.n⟩ K) (fun h ov => hop P call o (fun h cs => hops P call N ops rest h cs K) ⟨ov ++ cs.tm, cs.H, cs.n⟩ h) h
        | _ => False

theorem hops_out {P : Program} {call : Call} (hS : Sound P call) {N : Nat} {ops : Array Oper} : ∀ (rest : List Oper) (h : Hint) (cs : CS) (K : Hint → CS → Prop), hops P call N ops rest h cs K → ∃ h' cs', PRun P N ops rest cs cs' ∧ K h' cs'
  | [], h, cs, K, hh => ⟨h, cs, .nil cs, hh⟩
  | o :: rest, h, cs, K, hh => by
    have run : ∀ {h ov}, (∀ t, tget (ov ++ cs.tm) t = tget cs.tm t) → isSmall N o.dst = true → cwanted ops cs.tm o.guard = some true → hop P call o (fun h cs => hops P call N ops rest h cs K) ⟨ov ++ cs.tm, cs.H, cs.n⟩ h → ∃ h' cs', PRun P N ops (o :: rest) cs cs' ∧ K h' cs' := by
      intro h ov hov hs hw hg
      obtain ⟨tm, x, H, n, h1, ht, h2, h3⟩ := hop_out hS h hg
      obtain ⟨h', cs', h4, h5⟩ := hops_out hS rest _ _ K h3
      have e : ∀ t, tget tm t = tget cs.tm t := fun t => (ht t).trans (hov t)
      exact ⟨h', cs', .learn (tm := tm) e (.op hs (by rw [cwanted_eq e]; exact hw) h2 h4), h5⟩
    have skip : ∀ {h ov}, (∀ t, tget (ov ++ cs.tm) t = tget cs.tm t) → isSmall N o.dst = true → cwanted ops cs.tm o.guard = some false → hops P call N ops rest h ⟨cput (ov ++ cs.tm) o.dst (.tup []), cs.H, cs.n⟩ K → ∃ h' cs', PRun P N ops (o :: rest) cs cs' ∧ K h' cs' := by
      intro h ov hov hs hw hg
      obtain ⟨h', cs', h4, h5⟩ := hops_out hS rest _ _ K hg
      exact ⟨h', cs', .learn (tm := ov ++ cs.tm) hov (.skip hs (by rw [cwanted_eq hov]; exact hw) h4), h5⟩
    simp only [hops] at hh
    split at hh
    · exact hh.elim
    · next hs =>
      split at hh
      · next hg => exact run (ov := []) (fun _ => rfl) hs (by rw [hg]; rfl) hh
      · next j want hg =>
        split at hh
        · next vs hv => exact skip (ov := []) (fun _ => rfl) hs (by rw [hg]; exact gval_tup hv) hh
        · next b hv =>
          have hw := gval_bool (want := want) hv
          cases want with
          | true =>
            obtain ⟨h', ov, hov, ht⟩ := tst_out _ hh
            cases b with
            | true => exact run hov hs (by rw [hg]; exact hw) ht
            | false => exact skip hov hs (by rw [hg]; exact hw) ht
          | false =>
            obtain ⟨h', ov, hov, ht⟩ := tst_out _ hh
            cases b with
            | true => exact skip hov hs (by rw [hg]; exact hw) ht
            | false => exact run hov hs (by rw [hg]; exact hw) ht
        · exact hh.elim

/-! ### drawn regions. 'lv': what was learned of temporaries -/
theorem selT_eq {tm tm' : CTm} (h : ∀ t, tget tm' t = tget tm t) : ∀ (ts : List Nat), selT tm' ts = selT tm ts
  | [] => rfl
  | t :: r => by simp only [selT, h t, selT_eq h r]

def tdel : CTm → Option Tmp → CTm
  | [], _ => []
  | (t, x) :: r, d => match dstIs ⟨d, .move (.tmp 0), 0, "", #[], none⟩ t with | true => tdel r d | false => (t, x) :: tdel r d

theorem tdel_get {d t : Nat} : ∀ {lv : CTm}, tget (tdel lv (some d)) t = if d = t then none else tget lv t
  | [] => by simp [tdel, tget_nil]
  | (u, x) :: r => by
    simp only [tdel, dstIs]
    by_cases e : d = u
    · subst e
      rw [Nat.beq_refl]
      simp only
      rw [tdel_get, tget_cons]
      split <;> rfl
    · have : Nat.beq d u = false := by
        cases h : Nat.beq d u with
        | false => rfl
        | true => exact absurd (Nat.eq_of_beq_eq_true h) e
      rw [this]
      simp only
      rw [tget_cons, tget_cons, tdel_get]
      by_cases e2 : u = t
      · subst e2; simp [e]
      · simp [e2]

theorem tdel_none : ∀ (lv : CTm), tdel lv none = lv
  | [] => rfl
  | (u, x) :: r => by simp only [tdel, dstIs, tdel_none r]

theorem lv_put {lv tm : CTm} (h : ∀ t, tget (lv ++ tm) t = tget tm t) (d : Option Tmp) (x : CV) : ∀ t, tget (tdel lv d ++ cput tm d x) t = tget (cput tm d x) t := by
  intro t
  cases d with
  | none => rw [tdel_none]; exact h t
  | some d =>
    rw [tget_append, tdel_get]
    by_cases e : d = t
    · simp [e]
    · have := h t
      rw [tget_append] at this
      simp only [cput, tget_cons, if_neg e]
      cases hh : tget lv t with
      | none => rfl
      | some y => rw [hh] at this; exact this

/-- an operation of a drawn region -/
def hdop (P : Program) (call : Call) (m : Nat) (lt : Bool) (i : Nat) (o : Oper) (tm : CTm) (s : DS) (K : Hint → DS → Prop) : Hint → Prop
  | .run k h => (match k with
    | 0 => hdop P call m lt i o tm s K h
    | k + 1 => match drun P call 0 m lt i o tm s with
      | some s' => K (.run k h) s'
      | none => False)
  | .val x h => (match isFree o.op with
    | true => ValIs P o.op tm [] x ∧ K h { s with tm := cput s.tm o.dst x }
    | false => match s.l.all (tb m) with
      | false => False
      | true => match lt with
        | false => ValIs P o.op tm (selF m s.F ++ s.B) x ∧ K h ⟨cput s.tm o.dst x, s.B, (i, fresh s.n (selF m s.F ++ s.B)) :: s.F, s.n, i :: s.q, s.l, s.w⟩
        | true => match lookNum tm o.op with
          | none => ValIs P o.op tm [] x ∧ K h { s with tm := cput s.tm o.dst x }
          | some c => match hget s.B c with
            | some blk => ValIs P o.op tm [(c, blk)] x ∧ K h { s with tm := cput s.tm o.dst x, w := (i, c) :: s.w }
            | none => False)
  | .new loud x K0 n' h => (match s.l.all (tb m) with
    | false => False
    | true => match loud with
      | false => MemIs P o.op tm (selF m s.F ++ s.B) s.n s.n x (K0 ++ (selF m s.F ++ s.B)) n' ∧ K h ⟨cput s.tm o.dst x, s.B, (i, fresh s.n (K0 ++ (selF m s.F ++ s.B))) :: s.F, n', i :: s.q, s.l, s.w⟩
      | true => match s.q.all (tb m) with
        | false => False
        | true => MemIs P o.op tm (hideAll (atOnce m s.w) (allF s.F ++ s.B)) s.n 0 x (K0 ++ hideAll (atOnce m s.w) (allF s.F ++ s.B)) n' ∧
            K h ⟨cput s.tm o.dst x, keepAll (atOnce m s.w) (allF s.F ++ s.B) ++ (K0 ++ hideAll (atOnce m s.w) (allF s.F ++ s.B)), [], n', [], i :: s.l, s.w⟩)
  | .mem loud x H' n' h => (match s.l.all (tb m) with
    | false => False
    | true => match loud with
      | false => MemIs P o.op tm (selF m s.F ++ s.B) s.n s.n x H' n' ∧ K h ⟨cput s.tm o.dst x, s.B, (i, fresh s.n H') :: s.F, n', i :: s.q, s.l, s.w⟩
      | true => match s.q.all (tb m) with
        | false => False
        | true => MemIs P o.op tm (hideAll (atOnce m s.w) (allF s.F ++ s.B)) s.n 0 x H' n' ∧ K h ⟨cput s.tm o.dst x, keepAll (atOnce m s.w) (allF s.F ++ s.B) ++ H', [], n', [], i :: s.l, s.w⟩)
  | .sto _ blk h => (match s.l.all (tb m) && s.q.all (tb m) with
    | false => False
    | true => StoIs P o.op tm (hideAll (atOnce m s.w) (allF s.F ++ s.B)) 0 blk fun b => K h ⟨cput s.tm o.dst (.tup []), keepAll (atOnce m s.w) (allF s.F ++ s.B) ++ hset (hideAll (atOnce m s.w) (allF s.F ++ s.B)) b blk, [], s.n, [], i :: s.l, s.w⟩)
  | .app loud len blk h => (match s.l.all (tb m) with
    | false => False
    | true => match loud with
      | false => AppIs P o.op tm (selF m s.F ++ s.B) s.n len blk fun sz H1 => K h ⟨cput s.tm o.dst (.slice sz s.n 0 len none), s.B, (i, fresh s.n ((s.n, blk) :: H1)) :: s.F, s.n + 1, i :: s.q, s.l, s.w⟩
      | true => match s.q.all (tb m) with
        | false => False
        | true => AppIs P o.op tm (hideAll (atOnce m s.w) (allF s.F ++ s.B)) 0 len blk fun sz H1 => K h ⟨cput s.tm o.dst (.slice sz s.n 0 len none), keepAll (atOnce m s.w) (allF s.F ++ s.B) ++ ((s.n, blk) :: H1), [], s.n + 1, [], i :: s.l, s.w⟩)
  | .ask c l r => (c → hdop P call m lt i o tm s K l) ∧ (¬ c → hdop P call m lt i o tm s K r)
  | _ => False

theorem hdop_out {P : Program} {call : Call} (hS : Sound P call) {N : Nat} {ops : Array Oper} {m : Nat} {lt : Bool} {i : Nat} {o : Oper} {s : DS} {K : Hint → DS → Prop} (hs : isSmall N o.dst = true) (hw : cwanted ops (selT s.tm (looks ops o)) o.guard = some true) :
    ∀ (h : Hint), hdop P call m lt i o (selT s.tm (looks ops o)) s K h → ∃ k s' h' x, DK P 0 ops m i o s k s' ∧ s'.tm = cput s.tm o.dst x ∧ K h' s' := by
  have bits : ∀ {l : List Nat}, l.all (tb m) = true → ∀ j ∈ l, m.testBit j = true := by
    intro l hl j hj
    rw [List.all_eq_true] at hl
    have := hl j hj
    rwa [tb_eq] at this
  intro h
  induction h with
  | run k h ih =>
    intro hh
    simp only [hdop] at hh
    cases k with
    | zero => exact ih hh
    | succ k =>
      simp only at hh
      split at hh
      · next s' hx =>
        have hd : dstep P call 0 0 ops m lt i o s = dstep P call 0 0 ops m lt i o s := rfl
        have hd : dstep P call N 0 ops m lt i o s = some s' := by simp only [dstep, hs, hw, if_true]; exact hx
        obtain ⟨_, k, hk⟩ := dstep_kinds hS hd
        obtain ⟨x, hx⟩ : ∃ x, s'.tm = cput s.tm o.dst x := by cases hk <;> exact ⟨_, rfl⟩
        exact ⟨k, s', _, x, hk, hx, hh⟩
      · exact hh.elim
  | val x h _ =>
    intro hh
    simp only [hdop] at hh
    split at hh
    · exact ⟨0, _, h, x, .free x hw (opOk_of noCall_sound (valIs_cop hh.1)), rfl, hh.2⟩
    · split at hh
      · exact hh.elim
      · next hl =>
        split at hh
        · exact ⟨1, _, h, x, .quiet x _ _ hw (bits hl) (opOk_of noCall_sound (valIs_cop hh.1)), rfl, hh.2⟩
        · split at hh
          · exact ⟨0, _, h, x, .free x hw (opOk_of noCall_sound (valIs_cop hh.1)), rfl, hh.2⟩
          · next c hc =>
            split at hh
            · next blk hb => exact ⟨3, _, h, x, .watch x c blk _ hw (bits hl) hb (opOk_of noCall_sound (valIs_cop hh.1)), rfl, hh.2⟩
            · exact hh.elim
  | new loud x K0 n' h _ =>
    intro hh
    simp only [hdop] at hh
    split at hh
    · exact hh.elim
    · next hl =>
      split at hh
      · exact ⟨1, _, h, x, .quiet x _ n' hw (bits hl) (memIs_ok hh.1), rfl, hh.2⟩
      · split at hh
        · exact hh.elim
        · next hq => exact ⟨2, _, h, x, .loud x _ n' hw (bits hl) (bits hq) (memIs_ok hh.1), rfl, hh.2⟩
  | mem loud x H' n' h _ =>
    intro hh
    simp only [hdop] at hh
    split at hh
    · exact hh.elim
    · next hl =>
      split at hh
      · exact ⟨1, _, h, x, .quiet x H' n' hw (bits hl) (memIs_ok hh.1), rfl, hh.2⟩
      · split at hh
        · exact hh.elim
        · next hq => exact ⟨2, _, h, x, .loud x H' n' hw (bits hl) (bits hq) (memIs_ok hh.1), rfl, hh.2⟩
  | sto loud blk h _ =>
    intro hh
    simp only [hdop] at hh
    split at hh
    · exact hh.elim
    · next hl =>
      rw [Bool.and_eq_true] at hl
      obtain ⟨b, h1, h2⟩ := stoIs_ok (n := s.n) hh
      exact ⟨2, _, h, _, .loud _ _ _ hw (bits hl.1) (bits hl.2) h1, rfl, h2⟩
  | app loud len blk h _ =>
    intro hh
    simp only [hdop] at hh
    split at hh
    · exact hh.elim
    · next hl =>
      split at hh
      · obtain ⟨sz, H1, h1, h2⟩ := appIs_ok (n := s.n) hh
        exact ⟨1, _, h, _, .quiet _ _ _ hw (bits hl) h1, rfl, h2⟩
      · split at hh
        · exact hh.elim
        · next hq =>
          obtain ⟨sz, H1, h1, h2⟩ := appIs_ok (n := s.n) hh
          exact ⟨2, _, h, _, .loud _ _ _ hw (bits hl) (bits hq) h1, rfl, h2⟩
  | ask c l r ih1 ih2 =>
    intro hh
    simp only [hdop] at hh
    by_cases hc : c
    · exact ih1 (hh.1 hc)
    · exact ih2 (hh.2 hc)
  | _ => intro hh; exact hh.elim

def hdops (P : Program) (call : Call) (N : Nat) (ops : Array Oper) : List Oper → List Nat → Nat → Hint → CTm → DS → (Hint → CTm → DS → Prop) → Prop
  | [], _, _, h, lv, s, K => K h lv s
  | _ :: _, [], _, _, _, _, _ => False
  | o :: r, m :: ms, i, h, lv, s, K => match isSmall N o.dst with
    | false => False
    | true => match o.guard with
      | none => hdop P call m (late i r ms) i o (selT (lv ++ s.tm) (looks ops o)) s (fun h s => hdops P call N ops r ms (i + 1) h (tdel lv o.dst) s K) h
      | some (j, want) => match gval ops (selT (lv ++ s.tm) (looks ops o)) j with
        | some (.tup _) => hdops P call N ops r ms (i + 1) h (tdel lv o.dst) { s with tm := cput s.tm o.dst (.tup []) } K
        | some (.bool b) => match want with
          | true => tst (lv ++ s.tm) b (fun h ov => hdop P call m (late i r ms) i o (selT (ov ++ (lv ++ s.tm)) (looks ops o)) s (fun h s => hdops P call N ops r ms (i + 1) h (tdel (ov ++ lv) o.dst) s K) h)
              (fun h ov => hdops P call N ops r ms (i + 1) h (tdel (ov ++ lv) o.dst) { s with tm := cput s.tm o.dst (.tup []) } K) h
          | false => tst (lv ++ s.tm) b (fun h ov => hdops P call N ops r ms (i + 1) h (tdel (ov ++ lv) o.dst) { s with tm := cput s.tm o.dst (.tup []) } K)
              (fun h ov => hdop P call m (late i r ms) i o (selT (ov ++ (lv ++ s.tm)) (looks ops o)) s (fun h s => hdops P call N ops r ms (i + 1) h (tdel (ov ++ lv) o.dst) s K) h) h
        | _ => False

theorem hdops_out {P : Program} {call : Call} (hS : Sound P call) {N : Nat} {ops : Array Oper} : ∀ (rest : List Oper) (ms : List Nat) (i : Nat) (h : Hint) (lv : CTm) (s : DS) (K : Hint → CTm → DS → Prop), (∀ t, tget (lv ++ s.tm) t = tget s.tm t) → hdops P call N ops rest ms i h lv s K →
    ∃ h' lv' s', DRun P N ops rest ms i s s' ∧ (∀ t, tget (lv' ++ s'.tm) t = tget s'.tm t) ∧ K h' lv' s'
  | [], ms, i, h, lv, s, K, hlv, hh => ⟨h, lv, s, .nil s, hlv, hh⟩
  | _ :: _, [], i, h, lv, s, K, hlv, hh => hh.elim
  | o :: rest, m :: ms, i, h, lv, s, K, hlv, hh => by
    have run : ∀ {h ov}, (∀ t, tget (ov ++ (lv ++ s.tm)) t = tget (lv ++ s.tm) t) → isSmall N o.dst = true → cwanted ops (selT s.tm (looks ops o)) o.guard = some true →
        hdop P call m (late i rest ms) i o (selT (ov ++ (lv ++ s.tm)) (looks ops o)) s (fun h s => hdops P call N ops rest ms (i + 1) h (tdel (ov ++ lv) o.dst) s K) h →
        ∃ h' lv' s', DRun P N ops (o :: rest) (m :: ms) i s s' ∧ (∀ t, tget (lv' ++ s'.tm) t = tget s'.tm t) ∧ K h' lv' s' := by
      intro h ov hov hs hw hg
      have e : ∀ t, tget (ov ++ (lv ++ s.tm)) t = tget s.tm t := fun t => (hov t).trans (hlv t)
      rw [selT_eq e] at hg
      obtain ⟨k, s1, h1, x, h2, hx, h3⟩ := hdop_out hS hs hw h hg
      have e' : ∀ t, tget ((ov ++ lv) ++ s.tm) t = tget s.tm t := by rw [List.append_assoc]; exact e
      obtain ⟨h', lv', s', h4, h5, h6⟩ := hdops_out hS rest ms (i + 1) _ _ _ K (by rw [hx]; exact lv_put e' o.dst x) h3
      exact ⟨h', lv', s', .step hs h2 h4, h5, h6⟩
    have skip : ∀ {h ov}, (∀ t, tget (ov ++ (lv ++ s.tm)) t = tget (lv ++ s.tm) t) → isSmall N o.dst = true → cwanted ops (selT s.tm (looks ops o)) o.guard = some false →
        hdops P call N ops rest ms (i + 1) h (tdel (ov ++ lv) o.dst) { s with tm := cput s.tm o.dst (.tup []) } K →
        ∃ h' lv' s', DRun P N ops (o :: rest) (m :: ms) i s s' ∧ (∀ t, tget (lv' ++ s'.tm) t = tget s'.tm t) ∧ K h' lv' s' := by
      intro h ov hov hs hw hg
      have e : ∀ t, tget (ov ++ (lv ++ s.tm)) t = tget s.tm t := fun t => (hov t).trans (hlv t)
      have e' : ∀ t, tget ((ov ++ lv) ++ s.tm) t = tget s.tm t := by rw [List.append_assoc]; exact e
      obtain ⟨h', lv', s', h4, h5, h6⟩ := hdops_out hS rest ms (i + 1) _ _ _ K (lv_put e' o.dst (.tup [])) hg
      exact ⟨h', lv', s', .step hs (.skip hw) h4, h5, h6⟩
    simp only [hdops] at hh
    have hsel : selT (lv ++ s.tm) (looks ops o) = selT s.tm (looks ops o) := selT_eq hlv _
    split at hh
    · exact hh.elim
    · next hs =>
      split at hh
      · next hg => exact run (ov := []) (fun _ => rfl) hs (by rw [hg]; rfl) hh
      · next j want hg =>
        rw [hsel] at hh
        split at hh
        · next vs hv => exact skip (ov := []) (fun _ => rfl) hs (by rw [hg]; exact gval_tup hv) hh
        · next b hv =>
          have hw := gval_bool (want := want) hv
          cases want with
          | true =>
            obtain ⟨h', ov, hov, ht⟩ := tst_out _ hh
            cases b with
            | true => exact run hov hs (by rw [hg]; exact hw) ht
            | false => exact skip hov hs (by rw [hg]; exact hw) ht
          | false =>
            obtain ⟨h', ov, hov, ht⟩ := tst_out _ hh
            cases b with
            | true => exact skip hov hs (by rw [hg]; exact hw) ht
            | false => exact run hov hs (by rw [hg]; exact hw) ht
        · exact hh.elim

/-- whatever the function does from cs', it does from cs -/
def Wk (n0 top : Nat) (cs cs' : CS) : Prop :=
  cs.n ≤ top ∧ n0 ≤ cs'.n ∧ ∀ (P : Program) (f : FuncId) (N : Nat) (todo : List Item) (Q : CV → CHeap → Prop), Goes P f N n0 top todo cs' Q → Goes P f N n0 top todo cs Q

/-- the walk -/
def hw (P : Program) (call : Call) (fn : Func) (n0 top : Nat) : Nat → List Item → Hint → CS → (CV → CHeap → Nat → Prop) → (List Item → CS → Prop) → Prop
  | 0, _, _, _, _, _ => False
  | f + 1, todo, h, cs, R, L => match h.norm with
    | .stp n => (match n with
      | 0 => L todo cs
      | n + 1 => match todo with
        | [] => False
        | i :: r => match fitem i P call fn.ntmps 0 r cs with
          | some (t, cs') => hw P call fn n0 top f t (.stp n) cs' R L
          | none => False)
    | .cut ts pi fl n h => cutK n0 top ts pi fl [] n cs fun cs' => hw P call fn n0 top f todo h cs' R L
    | .cutm ts pi fl mx n h => cutK n0 top ts pi fl mx n cs fun cs' => hw P call fn n0 top f todo h cs' R L
    | .wk tm H n h => Wk n0 top cs ⟨tm, H, n⟩ ∧ hw P call fn n0 top f todo h ⟨tm, H, n⟩ R L
    | .ask c l r => (c → hw P call fn n0 top f todo l cs R L) ∧ (¬ c → hw P call fn n0 top f todo r cs R L)
    | h => match cret todo with
      | true => (match cresult cs.tm P cs.H fn with
        | some x => R x cs.H cs.n
        | none => False)
      | false => match todo with
        | [] => False
        | i :: r => match i with
          | .code c => (match c with
            | .cond c t e => (match cval cs.tm c with
              | some (.bool b) => tst cs.tm b (fun h ov => hw P call fn n0 top f (.code t :: r) h ⟨ov ++ cs.tm, cs.H, cs.n⟩ R L) (fun h ov => hw P call fn n0 top f (.code e :: r) h ⟨ov ++ cs.tm, cs.H, cs.n⟩ R L) h
              | _ => False)
            | .region _ ops false => hops P call fn.ntmps ops ops.toList h cs fun h cs => hw P call fn n0 top f r h cs R L
            | .region _ ops true => (match drawOk P ops with
              | true => hdops P call fn.ntmps ops ops.toList (bits ops) 0 h [] ⟨cs.tm, cs.H, [], cs.n, [], [], []⟩ fun h lv s => hw P call fn n0 top f r h ⟨lv ++ s.tm, allF s.F ++ s.B, s.n⟩ R L
              | false => False)
            | c => (match fcode c P call fn.ntmps 0 r cs with
              | some (t, cs') => hw P call fn n0 top f t h cs' R L
              | none => False))
          | i => (match fitem i P call fn.ntmps 0 r cs with
            | some (t, cs') => hw P call fn n0 top f t h cs' R L
            | none => False)

section
variable {P : Program}

theorem goes_teq {f : FuncId} {N n0 top : Nat} {todo : List Item} {cs : CS} {tm : CTm} {Q : CV → CHeap → Prop} (h : ∀ t, tget tm t = tget cs.tm t) (hg : Goes P f N n0 top todo ⟨tm, cs.H, cs.n⟩ Q) : Goes P f N n0 top todo cs Q := by
  intro E0 E a b callers h1 h2 h3 h4 h5 h6 h7
  exact hg E0 E a b callers h1 h2 h3 h4 h5 ⟨h6.heap, h6.keys, fun t x hx => h6.tmps t x (by rw [← h t]; exact hx), h6.size, h6.defers⟩ h7

theorem hw_out {call : Call} (hS : Sound P call) {f : FuncId} {fn : Func} (hf : P.funcs[f]? = some fn) {n0 top : Nat} {Q : CV → CHeap → Prop} : ∀ (k : Nat) (todo : List Item) (h : Hint) (cs : CS),
    hw P call fn n0 top k todo h cs (fun x H n => n ≤ top ∧ Q x H) (fun t c => c.n ≤ top ∧ Goes P f fn.ntmps n0 top t c Q) → n0 ≤ cs.n → cs.n ≤ top ∧ Goes P f fn.ntmps n0 top todo cs Q
  | 0, todo, h, cs, hh, hn => hh.elim
  | k + 1, todo, h, cs, hh, hn => by
    have stp : ∀ {t c} {h}, fstep P call fn.ntmps 0 todo cs = some (t, c) → hw P call fn n0 top k t h c (fun x H n => n ≤ top ∧ Q x H) (fun t c => c.n ≤ top ∧ Goes P f fn.ntmps n0 top t c Q) → cs.n ≤ top ∧ Goes P f fn.ntmps n0 top todo cs Q := by
      intro t c h hst hw
      rw [fstep_eq] at hst
      have hk := cstepD_keeps hS hst
      obtain ⟨h1, h2⟩ := hw_out hS hf k t h c hw (Nat.le_trans hn hk.1)
      exact ⟨Nat.le_trans hk.1 h1, goes_cstepD hS hst hn h1 h2⟩
    simp only [hw] at hh
    split at hh
    · split at hh
      · exact hh
      · split at hh
        · exact hh.elim
        · split at hh
          · next hst => exact stp (by simp only [fstep]; exact hst) hh
          · exact hh.elim
    · obtain ⟨cs', hh, c1, c2, c3, c4⟩ := cut_cs hh
      obtain ⟨_, h4⟩ := hw_out hS hf k todo _ cs' hh c2
      exact ⟨c1, goes_cut c4 h4⟩
    · obtain ⟨cs', hh, c1, c2, c3, c4⟩ := cut_cs hh
      obtain ⟨_, h4⟩ := hw_out hS hf k todo _ cs' hh c2
      exact ⟨c1, goes_cut c4 h4⟩
    · obtain ⟨⟨c1, c2, c3⟩, hh⟩ := hh
      exact ⟨c1, c3 _ _ _ _ _ (hw_out hS hf k todo _ _ hh c2).2⟩
    · next c l r _ =>
      by_cases hc : c
      · exact hw_out hS hf k todo _ cs (hh.1 hc) hn
      · exact hw_out hS hf k todo _ cs (hh.2 hc) hn
    · split at hh
      · next hr =>
        split at hh
        · next x hx => exact ⟨hh.1, goes_ret hf hr hx hh.2⟩
        · exact hh.elim
      · cases todo with
        | nil => exact hh.elim
        | cons i r =>
          dsimp only at hh
          cases i with
          | code c =>
            dsimp only at hh
            cases c with
            | cond c t e =>
              dsimp only at hh
              split at hh
              · next b hb =>
                obtain ⟨h', ov, hov, ht⟩ := tst_out _ hh
                cases b with
                | true =>
                  obtain ⟨g1, g2⟩ := hw_out hS hf k _ h' _ ht hn
                  exact ⟨g1, goes_cstepD hS (lo := 0) (show cstepD P call fn.ntmps 0 _ cs = some (.code t :: r, cs) by simp only [cstepD, cstep, hb]) hn g1 (goes_teq hov g2)⟩
                | false =>
                  obtain ⟨g1, g2⟩ := hw_out hS hf k _ h' _ ht hn
                  exact ⟨g1, goes_cstepD hS (lo := 0) (show cstepD P call fn.ntmps 0 _ cs = some (.code e :: r, cs) by simp only [cstepD, cstep, hb]) hn g1 (goes_teq hov g2)⟩
              · exact hh.elim
            | region id ops d =>
              cases d with
              | false =>
                dsimp only at hh
                obtain ⟨h', cs', h1, h2⟩ := hops_out hS _ _ _ _ hh
                have hk := prun_takes (id := id) h1
                obtain ⟨h3, h4⟩ := hw_out hS hf k r h' cs' h2 (Nat.le_trans hn hk.1)
                exact ⟨Nat.le_trans hk.1 h3, goes_takes hk hn h3 h4⟩
              | true =>
                dsimp only at hh
                split at hh
                · next hd =>
                  obtain ⟨h', lv, s, h1, hlv, h2⟩ := hdops_out hS _ _ _ _ _ _ _ (fun _ => rfl) hh
                  have hle := drun_keeps h1
                  obtain ⟨h3, h4⟩ := hw_out hS hf k r h' _ h2 (Nat.le_trans hn hle)
                  exact ⟨Nat.le_trans hle h3, goes_takes' (fun hkeys => drun_takes hd h1 hkeys) hn h3 (goes_teq hlv h4)⟩
                · exact hh.elim
            | _ =>
              dsimp only at hh
              split at hh
              · next t c' hst => exact stp (by simp only [fstep, fitem]; exact hst) hh
              · exact hh.elim
          | _ =>
            dsimp only at hh
            split at hh
            · next t c' hst => exact stp (by simp only [fstep]; exact hst) hh
            · exact hh.elim

/-- walk on -/
theorem goes_hw {call : Call} (hS : Sound P call) {f : FuncId} {fn : Func} (hf : P.funcs[f]? = some fn) (k : Nat) (h : Hint) {n0 top : Nat} {todo : List Item} {cs : CS} {Q : CV → CHeap → Prop} (hn : n0 ≤ cs.n)
    (hh : hw P call fn n0 top k todo h cs (fun x H n => n ≤ top ∧ Q x H) (fun t c => c.n ≤ top ∧ Goes P f fn.ntmps n0 top t c Q)) : Goes P f fn.ntmps n0 top todo cs Q :=
  (hw_out hS hf k todo h cs hh hn).2

end
end Go.Cn
