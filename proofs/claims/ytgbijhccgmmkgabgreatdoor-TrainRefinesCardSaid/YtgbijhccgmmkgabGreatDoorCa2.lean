/- The canonical calculus: operations. -/
import Derived.Test.YtgbijhccgmmkgabGreatDoorCa1
import GoSem.Op.Equal
set_option linter.unusedVariables false
set_option linter.unusedSimpArgs false
noncomputable section
namespace Go.Cn

def ui1 (x : CV) : Bool := match x with | .agg _ => false | .tup _ => false | _ => true

/-- what a call of a function comes to: its result, the memory behind it, the next free number of a block. The last argument: blocks with lesser numbers are not written -/
abbrev Call := FuncId → List CV → ua8 → Nat → Nat → Option (CV × ua8 × Nat)

def ofScalar : Value → Option CV
  | .bool b => some (.bool b)
  | .int k n => some (.int k n)
  | .string s => some (.str s.data.toList)
  | .pointer none => some .nilptr
  | .slice none 0 0 => some (.ro 1 [] (some 0))
  | .nilFunc => some .nilfn
  | _ => none

def ofScalars : List Value → Option (List CV)
  | [] => some []
  | v :: vs => match ofScalar v, ofScalars vs with
    | some x, some xs => some (x :: xs)
    | _, _ => none

def ofValue : Value → Option CV
  | .agg cs => match ofScalars cs.toList with | some xs => some (.agg xs) | none => none
  | .tuple cs => match ofScalars cs.toList with | some xs => some (.tup xs) | none => none
  | v => ofScalar v

def cval (tm : CTm) : Operand → Option CV
  | .tmp t => tget tm t
  | .const v => ofValue v
  | .global _ => none
  | .func f => some (.fn (.func f) [] [])

def cvals (tm : CTm) : List Operand → Option (List CV)
  | [] => some []
  | o :: os => match cval tm o, cvals tm os with
    | some x, some xs => some (x :: xs)
    | _, _ => none

def tsize (P : Program) (t : TypeId) : Option Nat := match P.info? t with | some i => some i.size | none => none
def tbytes (P : Program) (t : TypeId) : Option Nat := match P.info? t with | some i => some i.bytes | none => none
def aggT (P : Program) (t : TypeId) : Option Bool := match P.underlying t with | some (.struct _) => some true | some (.array _ _) => some true | some _ => some false | none => none
def czero (P : Program) (t : TypeId) : Option (List CV) := match P.info? t with
  | some i => match i.zero with | some v => ofScalars v.cells.toList | none => none
  | none => none

/-- the part of a row of cells that a variable of type t takes -/
def cpart (P : Program) (t : TypeId) (cells : List CV) (off : Nat) : Option CV :=
  match aggT P t with
  | some true => match tsize P t with
    | some s => if Nat.ble (off + s) cells.length then some (.agg ((cells.drop off).take s)) else none
    | none => none
  | some false => cells[off]?
  | none => none

def cload (P : Program) (t : TypeId) (x : CV) (H : ua8) : Option CV :=
  match x with
  | .ptr b off => match hget H b with
    | some blk => cpart P t blk off
    | none => none
  | .rop cells off => cpart P t cells off
  | _ => none

def putCells : List CV → Nat → List CV → List CV
  | blk, _, [] => blk
  | blk, o, x :: xs => putCells (blk.set o x) (o + 1) xs

def cfill (place : Nat → Option (Nat × Nat)) (cells : List CV) : List (Nat × CV) → Option (List CV)
  | [] => some cells
  | (i, v) :: rest => match place i with
    | none => none
    | some (off, size) => if Nat.beq v.cells.length size && Nat.ble (off + v.cells.length) cells.length then cfill place (putCells cells off v.cells) rest else none

def cparts (tm : CTm) : List (Nat × Operand) → Option (List (Nat × CV))
  | [] => some []
  | (i, o) :: os => match cval tm o, cparts tm os with
    | some x, some xs => some ((i, x) :: xs)
    | _, _ => none

def czeros (z : List CV) (n : Nat) : List CV := (List.range n).map fun i => z.getD (i % z.length) .nilptr

def asIdx : CV → Option Int
  | .int _ n => some n
  | _ => none

def cstr (op : BinOp) (x y : List UInt8) : Option CV :=
  match op with
  | .add => if Nat.ble (x.length + y.length) 4611686018427387904 then some (.str (x ++ y)) else none
  | .eql => some (.bool (x == y))
  | .neq => some (.bool !(x == y))
  | _ => none

def cint (op : BinOp) (k : IntKind) (a b : Int) : Option CV :=
  match op with
  | .add => some (.int k (k.wrap (a + b)))
  | .sub => some (.int k (k.wrap (a - b)))
  | .mul => some (.int k (k.wrap (a * b)))
  | .quo => if b = 0 then none else some (.int k (k.wrap (a.tdiv b)))
  | .rem => if b = 0 then none else some (.int k (a.tmod b))
  | .and => some (.int k (k.wrap (BitVec.ofInt k.bits a &&& BitVec.ofInt k.bits b).toNat))
  | .or => some (.int k (k.wrap (BitVec.ofInt k.bits a ||| BitVec.ofInt k.bits b).toNat))
  | .xor => some (.int k (k.wrap (BitVec.ofInt k.bits a ^^^ BitVec.ofInt k.bits b).toNat))
  | .andNot => some (.int k (k.wrap (BitVec.ofInt k.bits a &&& ~~~ BitVec.ofInt k.bits b).toNat))
  | .eql => some (.bool (a == b))
  | .neq => some (.bool (a != b))
  | .lss => some (.bool (a < b))
  | .leq => some (.bool (a ≤ b))
  | .gtr => some (.bool (a > b))
  | .geq => some (.bool (a ≥ b))
  | _ => none

/-- the equality of two structs whose fields are numbers and bools -/
def ceqs (P : Program) : List Field → List CV → List CV → Option Bool
  | [], _, _ => some true
  | f :: fs, xs, ys =>
    if f.name = "_" then none else
    match P.underlying f.type, xs[f.offset]?, ys[f.offset]? with
    | some (.int _), some (.int k a), some (.int k' b) => if k = k' then (if a = b then ceqs P fs xs ys else some false) else none
    | some .bool, some (.bool a), some (.bool b) => if a = b then ceqs P fs xs ys else some false
    | _, _, _ => none

def ceq (P : Program) (t : TypeId) (x y : CV) : Option Bool :=
  match x, y with
  | .bool a, .bool b => match P.underlying t with | some .bool => some (a == b) | _ => none
  | .agg xs, .agg ys => match P.underlying t with
    | some (.struct fs) => if P.eqGuardType P.depth t || P.stoodInHeld t then none else ceqs P fs.toList xs ys
    | _ => none
  | _, _ => none

def cbin (P : Program) (op : BinOp) (t : TypeId) (x y : CV) : Option CV :=
  match x, y with
  | .int k a, .int k' b => match op with
    | .shl => if b < 0 then none else some (.int k (k.wrap (a * 2 ^ (min b.toNat k.bits))))
    | .shr => if b < 0 then none else some (.int k (a.fdiv (2 ^ (min b.toNat k.bits))))
    | _ => if k = k' then cint op k a b else none
  | .str a, .str b => cstr op a b
  | _, _ => match op with
    | .eql => match ceq P t x y with | some b => some (.bool b) | none => none
    | .neq => match ceq P t x y with | some b => some (.bool !b) | none => none
    | _ => none

def cun (op : UnOp) (x : CV) : Option CV :=
  match op, x with
  | .neg, .int k n => some (.int k (k.wrap (0 - n)))
  | .not, .bool b => some (.bool !b)
  | _, _ => none

def cindexAddr (P : Program) (t : TypeId) (x i : CV) : Option CV :=
  match asIdx i with
  | none => none
  | some i => if i < 0 then none else
    match P.underlying t, x with
    | some (.slice e), .slice sz b off len _ => if Nat.blt i.toNat len then (match tsize P e with | some s => if Nat.beq s sz then some (.ptr b (off + i.toNat * sz)) else none | none => none) else none
    | some (.slice e), .ro sz xs _ => match xs[i.toNat]? with | some c => (match tsize P e with | some s => if Nat.beq s sz then some (.rop c 0) else none | none => none) | none => none
    | some (.array len e), .ptr b off => if Nat.blt i.toNat len then (match tsize P e with | some s => some (.ptr b (off + i.toNat * s)) | none => none) else none
    | some (.array len e), .rop c off => if Nat.blt i.toNat len then (match tsize P e with | some s => some (.rop c (off + i.toNat * s)) | none => none) else none
    | _, _ => none

def cfieldAddr (P : Program) (t : TypeId) (x : CV) (f : Nat) : Option CV :=
  match P.underlying t with
  | some (.struct fs) => match fs[f]? with
    | some fd => match tsize P fd.type with
      | some (_ + 1) => match x with
        | .ptr b off => some (.ptr b (off + fd.offset))
        | .rop c off => some (.rop c (off + fd.offset))
        | _ => none
      | _ => none
    | none => none
  | _ => none

def cfield (P : Program) (t : TypeId) (x : CV) (f : Nat) : Option CV :=
  match P.underlying t, x with
  | some (.struct fs), .agg cs => match fs[f]? with | some fd => cpart P fd.type cs fd.offset | none => none
  | _, _ => none

def cindex (P : Program) (t : TypeId) (x i : CV) : Option CV :=
  match asIdx i with
  | none => none
  | some i => if i < 0 then none else
    match P.underlying t, x with
    | some (.array len e), .agg cs => if Nat.blt i.toNat len then (match tsize P e with | some s => cpart P e cs (i.toNat * s) | none => none) else none
    | some .string, .str s => match s[i.toNat]? with | some b => some (.int .u8 b.toNat) | none => none
    | _, _ => none

/-- a bound of a slice expression: from 0 to y -/
def cbound (x : CV) (y : Nat) : Option Nat :=
  match x with
  | .int _ i => if i < 0 then none else if Nat.ble i.toNat y then some i.toNat else none
  | _ => none

/-- low, high, and the end of the capacity where it is known. 'top': what high may come to -/
def cbounds (len top : Nat) (cap : Option Nat) (lo hi mx : Option CV) : Option (Nat × Nat × Option Nat) :=
  match (match mx with | some v => (match cbound v top with | some m => some (m, some m) | none => none) | none => some (top, cap)) with
  | none => none
  | some (m, c) =>
    match (match hi, mx with | some v, _ => cbound v m | none, none => some len | none, some _ => none) with
    | none => none
    | some h => match (match lo with | some v => cbound v h | none => some 0) with
      | none => none
      | some l => some (l, h, c)

def capSub (c : Option Nat) (l : Nat) : Option Nat := match c with | some c => some (c - l) | none => none

def cslice (P : Program) (t : TypeId) (x : CV) (lo hi mx : Option CV) (H : ua8) : Option CV :=
  match P.underlying t, x with
  | some .string, .str s => match mx with
    | some _ => none
    | none => match cbounds s.length s.length (some s.length) lo hi none with
      | some (l, h, _) => some (.str ((s.drop l).take (h - l)))
      | none => none
  | some (.slice e), .slice sz b off len cap => match tsize P e with
    | some s => if Nat.beq s sz then (match cbounds len (cap.getD len) cap lo hi mx with
      | some (l, h, c) => match c with
        | some c => if Nat.beq (c - l) 0 then some (.ro sz [] (some 0)) else some (.slice sz b (off + l * sz) (h - l) (some (c - l)))
        | none => if Nat.beq (h - l) 0 then some (.ro sz [] none) else some (.slice sz b (off + l * sz) (h - l) none)
      | none => none) else none
    | none => none
  | some (.slice e), .ro sz xs cap => match tsize P e with
    | some s => if Nat.beq s sz || xs.isEmpty then (match cbounds xs.length xs.length cap lo hi mx with
      | some (l, h, c) => some (.ro s ((xs.drop l).take (h - l)) (capSub c l))
      | none => none) else none
    | none => none
  | some (.array n e), .ptr b off => match tsize P e, hget H b with
    | some s, some blk => if Nat.ble (off + n * s) blk.length then (match cbounds n n (some n) lo hi mx with
      | some (l, h, some c) => if Nat.beq (c - l) 0 then some (.ro s [] (some 0)) else some (.slice s b (off + l * s) (h - l) (some (c - l)))
      | _ => none) else none
    | _, _ => none
  | _, _ => none

/-- how many elements a slice or a string has, and their cells -/
def celems (H : ua8) (x : CV) : Option (Nat × Nat × List CV) :=
  match x with
  | .slice sz b off len _ => match hget H b with
    | some blk => if Nat.ble (off + len * sz) blk.length then some (sz, len, (blk.drop off).take (len * sz)) else none
    | none => none
  | .ro sz xs _ => some (sz, xs.length, xs.flatten)
  | .str s => some (1, s.length, s.map fun b => .int .u8 b.toNat)
  | _ => none

/-- the greatest size, in bytes, to which the calculus lets a slice grow: far below what makes the model ask for room -/
def growBytes : Nat := 70368744177664

/-- the last argument of append is no number (as it is where 'append(x, make(..)...)' was rewritten) -/
def noZeros (P : Program) (t : Option TypeId) : Bool :=
  match t with | some xT => (match P.underlying xT with | some (.int _) => false | some _ => true | none => false) | none => true

def cappend (P : Program) (argTypes : Array TypeId) (s y : CV) (H : ua8) (n lo : Nat) : Option (CV × ua8 × Nat) :=
  match argTypes[0]? with
  | none => none
  | some sT => match P.underlying sT with
    | some (.slice e) => match tsize P e, tbytes P e, celems H y, czero P e with
      | some sz, some by', some (ysz, k, cells), some z =>
        if !(Nat.beq z.length sz) then none else
        if !(noZeros P argTypes[1]?) then none else
        if Nat.beq k 0 then (match s with
          | .slice .. => some (s, H, n)
          | .ro .. => some (s, H, n)
          | _ => none) else
        if !(Nat.beq ysz sz) then none else
        if Nat.beq by' 0 || Nat.ble 4294967296 by' then none else
        match s with
        | .ro ssz xs cap => match cap with
          | none => none
          | some c => if Nat.ble (xs.length + k) c || !(Nat.beq ssz sz || xs.isEmpty) || !(Nat.ble ((xs.length + k) * by') growBytes) then none
            else some (.slice sz n 0 (xs.length + k) none, (n, xs.flatten ++ cells) :: H, n + 1)
        | .slice ssz b off len cap => if !(Nat.beq ssz sz) || !(Nat.ble ((len + k) * by') growBytes) then none else
          match hget H b with
          | none => none
          | some blk => match cap with
            | some c => if Nat.ble (len + k) c then
                (if (Nat.ble lo b && Nat.ble (off + (len + k) * sz) blk.length) && cells.all ui1 then some (.slice sz b off (len + k) cap, hset H b (putCells blk (off + len * sz) cells), n) else none)
              else if Nat.ble (off + len * sz) blk.length then some (.slice sz n 0 (len + k) none, (n, (blk.drop off).take (len * sz) ++ cells) :: H, n + 1) else none
            | none => if (Nat.ble lo b && Nat.beq off 0) && Nat.ble (len * sz) blk.length && cells.all ui1 then some (.slice sz n 0 (len + k) none, (n, blk.take (len * sz) ++ cells) :: hdel H b, n + 1) else none
        | _ => none
      | _, _, _, _ => none
    | _ => none

def ccopy (P : Program) (argTypes : Array TypeId) (d s : CV) (H : ua8) (n lo : Nat) : Option (CV × ua8 × Nat) :=
  match argTypes[0]? with
  | none => none
  | some dT => match P.underlying dT with
    | some (.slice e) => match tsize P e, celems H s with
      | some sz, some (ysz, k, cells) =>
        match d with
        | .ro _ xs _ => if xs.isEmpty && (Nat.beq ysz sz || Nat.beq k 0) then some (.int .i64 0, H, n) else none
        | .slice dsz b off len _ => if !(Nat.beq dsz sz) || !(Nat.beq ysz sz || Nat.beq k 0) then none else
          match hget H b with
          | none => none
          | some blk => if (Nat.ble lo b && Nat.ble (off + len * sz) blk.length) && cells.all ui1 then some (.int .i64 (Nat.min k len : Nat), hset H b (putCells blk off (cells.take (Nat.min k len * sz))), n) else none
        | _ => none
      | _, _ => none
    | _ => none

def clen (P : Program) (argTypes : Array TypeId) (x : CV) : Option CV :=
  match argTypes[0]? with
  | none => none
  | some t => match P.underlying t, x with
    | some .string, .str s => some (.int .i64 s.length)
    | some (.slice _), .slice _ _ _ len _ => some (.int .i64 len)
    | some (.slice _), .ro _ xs _ => some (.int .i64 xs.length)
    | _, _ => none

def cminmax (mx : Bool) : CV → List CV → Option CV
  | .int k x, .int _ y :: rest => cminmax mx (.int k (if mx then (if y > x then y else x) else (if y < x then y else x))) rest
  | .int k x, [] => some (.int k x)
  | _, _ => none

def u8s : List CV → Option (List UInt8)
  | [] => some []
  | .int .u8 n :: r => match u8s r with | some l => some (UInt8.ofNat n.toNat :: l) | none => none
  | _ :: _ => none

def cconvert (P : Program) (src dst : TypeId) (x : CV) (H : ua8) (n : Nat) : Option (CV × ua8 × Nat) :=
  match P.underlying src, P.underlying dst, x with
  | some _, some (.int k), .int _ a => some (.int k (k.wrap a), H, n)
  | some .string, some .string, .str s => some (.str s, H, n)
  | some (.slice e), some .string, .ro sz xs _ => match P.underlying e with
    | some (.int .u8) => if !(Nat.beq sz 1 || xs.isEmpty) then none else match u8s xs.flatten with | some s => some (.str s, H, n) | none => none
    | _ => none
  | some (.slice e), some .string, .slice sz b off len cap => match P.underlying e with
    | some (.int .u8) => if !(Nat.beq sz 1) then none else match celems H (.slice sz b off len cap) with
      | some (_, _, cells) => match u8s cells with | some s => some (.str s, H, n) | none => none
      | none => none
    | _ => none
  | some .string, some (.slice e), .str s => match P.underlying e with
    | some (.int .u8) => some (.slice 1 n 0 s.length none, (n, s.map fun b => .int .u8 b.toNat) :: H, n + 1)
    | _ => none
  | _, _, _ => none

def cmakeSlice (P : Program) (t : TypeId) (len cap : CV) (H : ua8) (n : Nat) : Option (CV × ua8 × Nat) :=
  match P.underlying t, len, cap with
  | some (.slice e), .int _ l, .int _ c => match tsize P e, tbytes P e, czero P e with
    | some sz, some by', some z => if l < 0 || c < l || !(Nat.beq z.length sz) || !(Nat.ble 1 by') || !(Nat.ble (c.toNat * by') growBytes) then none
      else some (.slice sz n 0 l.toNat (some c.toNat), (n, czeros z (c.toNat * sz)) :: H, n + 1)
    | _, _, _ => none
  | _, _, _ => none

def optVal (tm : CTm) : Option Operand → Option (Option CV)
  | none => some none
  | some o => match cval tm o with | some x => some (some x) | none => none

def cbuild (P : Program) (t : TypeId) (parts : List (Nat × CV)) : Option CV :=
  match czero P t, P.underlying t with
  | some z, some (.struct fs) => match cfill (fun i => match fs[i]? with | some f => (match tsize P f.type with | some s => some (f.offset, s) | none => none) | none => none) z parts with
    | some cells => if (fs.toList.all fun f => (tsize P f.type).isSome) then some (.agg cells) else none
    | none => none
  | some z, some (.array _ e) => match tsize P e with
    | some s => match cfill (fun i => some (i * s, s)) z parts with | some cells => some (.agg cells) | none => none
    | none => none
  | _, _ => none

def cbuildSlice (P : Program) (t : TypeId) (len : Nat) (parts : List (Nat × CV)) (H : ua8) (n : Nat) : Option (CV × ua8 × Nat) :=
  match P.underlying t with
  | some (.slice e) => match tsize P e, czero P e with
    | some s, some z => if !(Nat.beq z.length s) || Nat.blt 16777216 (len * s) then none else
      match cfill (fun i => some (i * s, s)) (czeros z (len * s)) parts with
      | some cells => some (.slice s n 0 len (some len), (n, cells) :: H, n + 1)
      | none => none
    | _, _ => none
  | _ => none

def isLive (H : ua8) : CV → Bool
  | .ptr b _ => (hget H b).isSome
  | .rop _ _ => true
  | .slice .. => false
  | .fn (.func _) _ _ => true
  | _ => false

def ccall (P : Program) (call : Call) (c : Go.Call) (tm : CTm) (H : ua8) (n lo : Nat) : Option (CV × ua8 × Nat) :=
  match cvals tm c.args.toList with
  | none => none
  | some args => match c.callee with
    | .value f => match cval tm f with
      | some (.fn (.func g) first captured) => call g (first ++ args ++ captured) H n lo
      | _ => none
    | .builtin .len => match args with | [x] => (match clen P c.argTypes x with | some v => some (v, H, n) | none => none) | _ => none
    | .builtin .append => match args with | [s, y] => cappend P c.argTypes s y H n lo | _ => none
    | .builtin .copy => match args with | [s, y] => ccopy P c.argTypes s y H n lo | _ => none
    | .builtin .max => match args with | x :: r => (match cminmax true x r with | some v => some (v, H, n) | none => none) | [] => none
    | .builtin .min => match args with | x :: r => (match cminmax false x r with | some v => some (v, H, n) | none => none) | [] => none
    | _ => none

/-- one operation -/
def cop (P : Program) (call : Call) (op : Op) (tm : CTm) (H : ua8) (n lo : Nat) : Option (CV × ua8 × Nat) :=
  let pure' (x : Option CV) : Option (CV × ua8 × Nat) := match x with | some v => some (v, H, n) | none => none
  match op with
  | .move x => pure' (cval tm x)
  | .assign x => pure' (cval tm x)
  | .pick c a b => match cval tm c with
    | some (.bool true) => pure' (cval tm a)
    | some (.bool false) => pure' (cval tm b)
    | _ => none
  | .alloc t => match czero P t with | some z => some (.ptr n 0, (n, z) :: H, n + 1) | none => none
  | .box _ x => match cval tm x with | some v => some (.ptr n 0, (n, v.cells) :: H, n + 1) | none => none
  | .build t parts => match cparts tm parts.toList with | some ps => pure' (cbuild P t ps) | none => none
  | .buildSlice t len parts => match cparts tm parts.toList with | some ps => cbuildSlice P t len ps H n | none => none
  | .load t a => match cval tm a with | some x => pure' (cload P t x H) | none => none
  | .store t a x => match cval tm a, cval tm x, tsize P t with
    | some (.ptr b off), some v, some s => match hget H b with
      | some blk => if (Nat.ble lo b && Nat.beq v.cells.length s) && Nat.ble (off + s) blk.length && v.cells.all ui1 then some (.tup [], hset H b (putCells blk off v.cells), n) else none
      | none => none
    | _, _, _ => none
  | .nilCheck x => match cval tm x with | some v => if isLive H v then some (v, H, n) else none | none => none
  | .binOp op t x y _ => match cval tm x, cval tm y with | some a, some b => pure' (cbin P op t a b) | _, _ => none
  | .unOp op _ x => match cval tm x with | some a => pure' (cun op a) | none => none
  | .convert s d x => match cval tm x with | some a => cconvert P s d a H n | none => none
  | .makeFunc f first captured => match cvals tm first.toList, cvals tm captured.toList with
    | some a, some b => some (.fn f a b, H, n)
    | _, _ => none
  | .makeSlice t l c => match cval tm l, cval tm c with | some a, some b => cmakeSlice P t a b H n | _, _ => none
  | .slice t x lo hi mx => match cval tm x, optVal tm lo, optVal tm hi, optVal tm mx with
    | some a, some l, some h, some m => pure' (cslice P t a l h m H)
    | _, _, _, _ => none
  | .fieldAddr t x f => match cval tm x with | some a => pure' (cfieldAddr P t a f) | none => none
  | .field t x f => match cval tm x with | some a => pure' (cfield P t a f) | none => none
  | .indexAddr t x i => match cval tm x, cval tm i with | some a, some b => pure' (cindexAddr P t a b) | _, _ => none
  | .index t x i => match cval tm x, cval tm i with | some a, some b => pure' (cindex P t a b) | _, _ => none
  | .extract x i => match cval tm x with | some (.tup vs) => pure' vs[i]? | _ => none
  | .call c => ccall P call c tm H n lo
  | _ => none

/-- is an operation wanted: none where that is not known -/
def cwanted (ops : Array Oper) (tm : CTm) (g : Option (Nat × Bool)) : Option Bool :=
  match g with
  | none => some true
  | some (j, want) => match ops[j]? with
    | none => some false
    | some o => match o.dst with
      | none => some false
      | some t => match tget tm t with
        | some (.bool b) => some (b == want)
        | some (.tup _) => some false
        | _ => none

def isSmall (N : Nat) : Option Tmp → Bool
  | none => true
  | some d => Nat.blt d N

/-- a region, one operation behind the other -/
def cops (P : Program) (call : Call) (N lo : Nat) (ops : Array Oper) : List Oper → CS → Option CS
  | [], cs => some cs
  | o :: rest, cs =>
    if isSmall N o.dst then
      match cwanted ops cs.tm o.guard with
      | some true => match cop P call o.op cs.tm cs.H cs.n lo with
        | some (x, H, n) => cops P call N lo ops rest ⟨cput cs.tm o.dst x, H, n⟩
        | none => none
      | some false => cops P call N lo ops rest ⟨cput cs.tm o.dst (.tup []), cs.H, cs.n⟩
      | none => none
    else none

def cresults (tm : CTm) (P : Program) (H : ua8) : List ResultVar → Option (List CV)
  | [] => some []
  | .tmp t :: r => match tget tm t, cresults tm P H r with
    | some x, some xs => some (x :: xs)
    | _, _ => none
  | .cell a t :: r => match tget tm a with
    | some p => match cload P t p H, cresults tm P H r with
      | some x, some xs => some (x :: xs)
      | _, _ => none
    | none => none

def cresult (tm : CTm) (P : Program) (H : ua8) (fn : Func) : Option CV :=
  match cresults tm P H fn.results.toList with
  | some [x] => some x
  | some xs => some (.tup xs)
  | none => none

/-- one step; none: it can't be made, or the function returns here -/
def cstep (P : Program) (call : Call) (N lo : Nat) : List Item → CS → Option (List Item × CS)
  | .code .skip :: k, cs => some (k, cs)
  | .code (.label _) :: k, cs => some (k, cs)
  | .inBlock _ :: k, cs => some (k, cs)
  | .inScope _ :: k, cs => some (k, cs)
  | .code (.seq a b) :: k, cs => some (.code a :: .code b :: k, cs)
  | .code (.cond c t e) :: k, cs => match cval cs.tm c with
    | some (.bool b) => match b with
      | true => some (.code t :: k, cs)
      | false => some (.code e :: k, cs)
    | _ => none
  | .code (.block id b) :: k, cs => some (.code b :: .inBlock id :: k, cs)
  | .code (.loop b) :: k, cs => some (.code b :: .inLoop b :: k, cs)
  | .inLoop b :: k, cs => some (.code b :: .inLoop b :: k, cs)
  | .code (.scope b) :: k, cs => some (.code b :: .inScope b :: k, cs)
  | .code (.exit id) :: k, cs => match exitTo id k with | some k' => some (k', cs) | none => none
  | .code (.goto l) :: k, cs => match gotoIn l k with | some k' => some (k', cs) | none => none
  | .code (.region _ ops false) :: k, cs => match cops P call N lo ops ops.toList cs with | some cs' => some (k, cs') | none => none
  | _, _ => none

def cret : List Item → Bool
  | [] => true
  | .code .ret :: _ => true
  | _ => false

end Go.Cn
end
