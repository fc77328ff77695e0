/- The canonical calculus, part 20: the same evaluation, told so that the kernel runs it well: each kind of operation has a closed branch of its own. -/
import Derived.Test.YteokapmkfoogaaaGreatDoorCn19
set_option linter.unusedVariables false
set_option linter.unusedSimpArgs false
noncomputable section
namespace Go.Cn

def pur (x : Option CV) (H : CHeap) (n : Nat) : Option (CV × CHeap × Nat) := match x with | some v => some (v, H, n) | none => none

def iand (k : IntKind) (a b : Int) : Int := k.wrap (BitVec.ofInt k.bits a &&& BitVec.ofInt k.bits b).toNat
def ior (k : IntKind) (a b : Int) : Int := k.wrap (BitVec.ofInt k.bits a ||| BitVec.ofInt k.bits b).toNat
def ixor (k : IntKind) (a b : Int) : Int := k.wrap (BitVec.ofInt k.bits a ^^^ BitVec.ofInt k.bits b).toNat

def fint (op : BinOp) : IntKind → Int → Int → Option CV :=
  match op with
  | .add => fun k a b => some (.int k (k.wrap (a + b)))
  | .sub => fun k a b => some (.int k (k.wrap (a - b)))
  | .mul => fun k a b => some (.int k (k.wrap (a * b)))
  | .quo => fun k a b => if b = 0 then none else some (.int k (k.wrap (a.tdiv b)))
  | .rem => fun k a b => if b = 0 then none else some (.int k (a.tmod b))
  | .and => fun k a b => some (.int k (iand k a b))
  | .or => fun k a b => some (.int k (ior k a b))
  | .xor => fun k a b => some (.int k (ixor k a b))
  | .eql => fun k a b => some (.bool (a == b))
  | .neq => fun k a b => some (.bool (a != b))
  | .lss => fun k a b => some (.bool (a < b))
  | .leq => fun k a b => some (.bool (a ≤ b))
  | .gtr => fun k a b => some (.bool (a > b))
  | .geq => fun k a b => some (.bool (a ≥ b))
  | op => fun k a b => cint op k a b

theorem fint_eq (op : BinOp) (k : IntKind) (a b : Int) : fint op k a b = cint op k a b := by cases op <;> rfl

def fbinI (op : BinOp) : IntKind → Int → IntKind → Int → Option CV :=
  match op with
  | .shl => fun k a k' b => if b < 0 then none else some (.int k (k.wrap (a * 2 ^ (min b.toNat k.bits))))
  | .shr => fun k a k' b => if b < 0 then none else some (.int k (a.fdiv (2 ^ (min b.toNat k.bits))))
  | op => fun k a k' b => if k = k' then fint op k a b else none

def fbin (P : Program) (op : BinOp) (t : TypeId) (x y : CV) : Option CV :=
  match x with
  | .int k a => match y with
    | .int k' b => fbinI op k a k' b
    | y => cbin P op t (.int k a) y
  | x => cbin P op t x y

theorem fbin_eq (P : Program) (op : BinOp) (t : TypeId) (x y : CV) : fbin P op t x y = cbin P op t x y := by
  unfold fbin
  split
  · split
    · unfold fbinI cbin
      cases op <;> simp only [fint_eq]
    · rfl
  · rfl

def fcallee (c : Callee) : Program → Call → Array TypeId → List CV → CTm → CHeap → Nat → Nat → Option (CV × CHeap × Nat) :=
  match c with
  | .value f => fun P call ts args tm H n lo => match cval tm f with
      | some (.fn (.func g) first captured) => call g (first ++ args ++ captured) H n lo
      | _ => none
  | .builtin .len => fun P call ts args tm H n lo => match args with | [x] => pur (clen P ts x) H n | _ => none
  | .builtin .append => fun P call ts args tm H n lo => match args with | [s, y] => cappend P ts s y H n lo | _ => none
  | .builtin .copy => fun P call ts args tm H n lo => match args with | [s, y] => ccopy P ts s y H n lo | _ => none
  | .builtin .max => fun P call ts args tm H n lo => match args with | x :: r => pur (cminmax true x r) H n | [] => none
  | .builtin .min => fun P call ts args tm H n lo => match args with | x :: r => pur (cminmax false x r) H n | [] => none
  | _ => fun P call ts args tm H n lo => none

def fcall (P : Program) (call : Call) (c : Go.Call) (tm : CTm) (H : CHeap) (n lo : Nat) : Option (CV × CHeap × Nat) :=
  match cvals tm c.args.toList with
  | none => none
  | some args => fcallee c.callee P call c.argTypes args tm H n lo

theorem fcall_eq (P : Program) (call : Call) (c : Go.Call) (tm : CTm) (H : CHeap) (n lo : Nat) : fcall P call c tm H n lo = ccall P call c tm H n lo := by
  unfold fcall ccall
  cases cvals tm c.args.toList with
  | none => rfl
  | some args =>
    simp only
    cases c.callee with
    | value f => rfl
    | builtin b => cases b <;> rfl
    | _ => rfl

def fop (op : Op) : Program → Call → CTm → CHeap → Nat → Nat → Option (CV × CHeap × Nat) :=
  match op with
  | .move x => fun P call tm H n lo => pur (cval tm x) H n
  | .assign x => fun P call tm H n lo => pur (cval tm x) H n
  | .pick c a b => fun P call tm H n lo => match cval tm c with
    | some (.bool true) => pur (cval tm a) H n
    | some (.bool false) => pur (cval tm b) H n
    | _ => none
  | .alloc t => fun P call tm H n lo => match czero P t with | some z => some (.ptr n 0, (n, z) :: H, n + 1) | none => none
  | .box _ x => fun P call tm H n lo => match cval tm x with | some v => some (.ptr n 0, (n, v.cells) :: H, n + 1) | none => none
  | .build t parts => fun P call tm H n lo => match cparts tm parts.toList with | some ps => pur (cbuild P t ps) H n | none => none
  | .buildSlice t len parts => fun P call tm H n lo => match cparts tm parts.toList with | some ps => cbuildSlice P t len ps H n | none => none
  | .load t a => fun P call tm H n lo => match cval tm a with | some x => pur (cload P t x H) H n | none => none
  | .store t a x => fun P call tm H n lo => cop P call (.store t a x) tm H n lo
  | .nilCheck x => fun P call tm H n lo => match cval tm x with | some v => (match isLive H v with | true => some (v, H, n) | false => none) | none => none
  | .binOp op t x y c => fun P call tm H n lo => match cval tm x with | some a => (match cval tm y with | some b => pur (fbin P op t a b) H n | none => none) | none => none
  | .unOp op t x => fun P call tm H n lo => match cval tm x with | some a => pur (cun op a) H n | none => none
  | .convert s d x => fun P call tm H n lo => match cval tm x with | some a => cconvert P s d a H n | none => none
  | .makeFunc f first captured => fun P call tm H n lo => match cvals tm first.toList, cvals tm captured.toList with
    | some a, some b => some (.fn f a b, H, n)
    | _, _ => none
  | .makeSlice t l c => fun P call tm H n lo => match cval tm l, cval tm c with | some a, some b => cmakeSlice P t a b H n | _, _ => none
  | .slice t x lo' hi mx => fun P call tm H n lo => match cval tm x, optVal tm lo', optVal tm hi, optVal tm mx with
    | some a, some l, some h, some m => pur (cslice P t a l h m H) H n
    | _, _, _, _ => none
  | .fieldAddr t x f => fun P call tm H n lo => match cval tm x with | some a => pur (cfieldAddr P t a f) H n | none => none
  | .field t x f => fun P call tm H n lo => match cval tm x with | some a => pur (cfield P t a f) H n | none => none
  | .indexAddr t x i => fun P call tm H n lo => match cval tm x with | some a => (match cval tm i with | some b => pur (cindexAddr P t a b) H n | none => none) | none => none
  | .index t x i => fun P call tm H n lo => match cval tm x with | some a => (match cval tm i with | some b => pur (cindex P t a b) H n | none => none) | none => none
  | .extract x i => fun P call tm H n lo => match cval tm x with | some (.tup vs) => pur vs[i]? H n | _ => none
  | .call c => fun P call tm H n lo => fcall P call c tm H n lo
  | op => fun P call tm H n lo => cop P call op tm H n lo

theorem fop_eq (P : Program) (call : Call) (op : Op) (tm : CTm) (H : CHeap) (n lo : Nat) : fop op P call tm H n lo = cop P call op tm H n lo := by
  cases op <;> try rfl
  case binOp op t x y c => simp only [fop, cop, fbin_eq, pur]; cases cval tm x <;> cases cval tm y <;> rfl
  case nilCheck x => simp only [fop, cop]; cases cval tm x with | none => rfl | some v => simp only; cases isLive H v <;> rfl
  case indexAddr t x i => simp only [fop, cop, pur]; cases cval tm x <;> cases cval tm i <;> rfl
  case index t x i => simp only [fop, cop, pur]; cases cval tm x <;> cases cval tm i <;> rfl
  case call c => simp only [fop, cop, fcall_eq]

def fops (P : Program) (call : Call) (N lo : Nat) (ops : Array Oper) : List Oper → CS → Option CS
  | [], cs => some cs
  | o :: rest, cs =>
    match isSmall N o.dst with
    | true => match cwanted ops cs.tm o.guard with
      | some true => match fop o.op P call cs.tm cs.H cs.n lo with
        | some (x, H, n) => fops P call N lo ops rest ⟨cput cs.tm o.dst x, H, n⟩
        | none => none
      | some false => fops P call N lo ops rest ⟨cput cs.tm o.dst (.tup []), cs.H, cs.n⟩
      | none => none
    | false => none

theorem fops_eq (P : Program) (call : Call) (N lo : Nat) (ops : Array Oper) : ∀ (rest : List Oper) (cs : CS), fops P call N lo ops rest cs = cops P call N lo ops rest cs
  | [], cs => rfl
  | o :: rest, cs => by
    simp only [fops, cops, fop_eq]
    cases isSmall N o.dst with
    | false => rfl
    | true =>
      simp only [if_true]
      cases cwanted ops cs.tm o.guard with
      | none => rfl
      | some b =>
        cases b with
        | false => exact fops_eq P call N lo ops rest _
        | true =>
          simp only
          cases cop P call o.op cs.tm cs.H cs.n lo with
          | none => rfl
          | some r => exact fops_eq P call N lo ops rest _

def fcode (c : Code) : Program → Call → Nat → Nat → List Item → CS → Option (List Item × CS) :=
  match c with
  | .skip => fun P call N lo k cs => some (k, cs)
  | .label _ => fun P call N lo k cs => some (k, cs)
  | .seq a b => fun P call N lo k cs => some (.code a :: .code b :: k, cs)
  | .cond c t e => fun P call N lo k cs => match cval cs.tm c with
    | some (.bool b) => match b with
      | true => some (.code t :: k, cs)
      | false => some (.code e :: k, cs)
    | _ => none
  | .block id b => fun P call N lo k cs => some (.code b :: .inBlock id :: k, cs)
  | .loop b => fun P call N lo k cs => some (.code b :: .inLoop b :: k, cs)
  | .scope b => fun P call N lo k cs => some (.code b :: .inScope b :: k, cs)
  | .exit id => fun P call N lo k cs => match exitTo id k with | some k' => some (k', cs) | none => none
  | .goto l => fun P call N lo k cs => match gotoIn l k with | some k' => some (k', cs) | none => none
  | .region id ops d => fun P call N lo k cs => match d with
    | false => (match fops P call N lo ops ops.toList cs with | some cs' => some (k, cs') | none => none)
    | true => (match cdraw P call N lo ops cs with | some cs' => some (k, cs') | none => none)
  | _ => fun P call N lo k cs => none

def fitem (i : Item) : Program → Call → Nat → Nat → List Item → CS → Option (List Item × CS) :=
  match i with
  | .code c => fcode c
  | .inBlock _ => fun P call N lo k cs => some (k, cs)
  | .inScope _ => fun P call N lo k cs => some (k, cs)
  | .inLoop b => fun P call N lo k cs => some (.code b :: .inLoop b :: k, cs)
  | _ => fun P call N lo k cs => none

def fstep (P : Program) (call : Call) (N lo : Nat) (todo : List Item) (cs : CS) : Option (List Item × CS) :=
  match todo with
  | [] => none
  | i :: k => fitem i P call N lo k cs

theorem fstep_eq (P : Program) (call : Call) (N lo : Nat) (todo : List Item) (cs : CS) : fstep P call N lo todo cs = cstepD P call N lo todo cs := by
  cases todo with
  | nil => rfl
  | cons i k =>
    cases i with
    | code c =>
      cases c with
      | region id ops d => cases d <;> simp only [fstep, fitem, fcode, cstepD, cstep, fops_eq] <;> rfl
      | _ => rfl
    | _ => rfl

def frunF (P : Program) (call : Call) (fn : Func) (lo : Nat) : Nat → List Item → CS → Option (CV × CHeap × Nat)
  | 0, _, _ => none
  | f + 1, todo, cs =>
    match cret todo with
    | true => match cresult cs.tm P cs.H fn with | some v => some (v, cs.H, cs.n) | none => none
    | false => match fstep P call fn.ntmps lo todo cs with
      | some (todo', cs') => frunF P call fn lo f todo' cs'
      | none => none

theorem frunF_eq (P : Program) (call : Call) (fn : Func) (lo : Nat) : ∀ (f : Nat) (todo : List Item) (cs : CS), frunF P call fn lo f todo cs = crunF P call fn lo f todo cs
  | 0, _, _ => rfl
  | f + 1, todo, cs => by
    simp only [frunF, crunF, fstep_eq]
    cases cret todo with
    | true => rfl
    | false =>
      simp only
      cases cstepD P call fn.ntmps lo todo cs with
      | none => rfl
      | some r => exact frunF_eq P call fn lo f _ _

def fevalCall (P : Program) (fuel : Nat) : Nat → Call
  | 0, _, _, _, _, _ => none
  | d + 1, f, args, H, n, lo => match P.funcs[f]? with
    | some fn => match fn.body with
      | some c => match Nat.ble args.length fn.ntmps with
        | true => frunF P (fevalCall P fuel d) fn lo fuel [.code c] ⟨argTm args 0 [], H, n⟩
        | false => none
      | none => none
    | none => none

theorem fevalCall_eq (P : Program) (fuel : Nat) : ∀ (d : Nat), fevalCall P fuel d = evalCall P fuel d
  | 0 => rfl
  | d + 1 => by
    funext f args H n lo
    simp only [fevalCall, evalCall, frunF_eq, fevalCall_eq P fuel d]
    cases P.funcs[f]? with
    | none => rfl
    | some fn =>
      simp only
      cases fn.body with
      | none => rfl
      | some c =>
        simp only
        cases h : Nat.ble args.length fn.ntmps with
        | true => rw [if_pos rfl]
        | false => rw [if_neg (by simp)]

end Go.Cn
