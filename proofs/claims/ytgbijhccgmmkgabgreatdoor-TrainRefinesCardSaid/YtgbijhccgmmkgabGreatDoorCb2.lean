/- The canonical calculus: data. -/
import Derived.Test.YtgbijhccgmmkgabGreatDoorCb1
import Derived.KernelRfl
set_option linter.unusedVariables false
set_option linter.unusedSimpArgs false
noncomputable section
namespace Go.Cn

/-! ### the types of a program -/
theorem info_of {P : Program} {t : TypeId} {i : TypeInfo} (h : P.types[t]? = some i) : P.info? t = some i := by
  have hlt : t < P.types.size := by
    rcases Nat.lt_or_ge t P.types.size with h' | h'
    · exact h'
    · rw [Array.getElem?_eq_none h'] at h; simp at h
  unfold Tables.info?
  rw [if_pos hlt]; exact h

theorem tsize_of {P : Program} {t : TypeId} {i : TypeInfo} (h : P.types[t]? = some i) : tsize P t = some i.size := by unfold tsize; rw [info_of h]

/-! ### the pure side -/
def vl {α : Type} [Inhabited α] (o : Option α) : α := o.getD default

theorem bndK {α β : Type} [Inhabited α] {o : Option α} {f : α → Option β} {r : β} {a : α} {p : Prop} (e : a = vl o) (h : o.bind f = some r) (k : o = some a → f a = some r → p) : p := by
  cases o with
  | none => simp at h
  | some x => obtain rfl : a = x := e; exact k rfl h

theorem grdK {β : Type} {c : Prop} [Decidable c] {x : Option β} {r : β} {p : Prop} (h : (if c then x else none) = some r) (k : c → x = some r → p) : p := by
  by_cases hc : c
  · rw [if_pos hc] at h; exact k hc h
  · rw [if_neg hc] at h; cases h

theorem bifD {β : Type} {c : Prop} [Decidable c] {X Y : Unit → Prop} {x y : Option β} {r : β} (h : (if c then x else y) = some r) (hx : c → x = some r → X ()) (hy : ¬ c → y = some r → Y ()) : BIf (decide c) X Y := by
  by_cases hc : c
  · rw [if_pos hc] at h; rw [decide_eq_true hc]; exact hx hc h
  · rw [if_neg hc] at h; rw [decide_eq_false hc]; exact hy hc h

theorem bifB {β : Type} {b : Bool} {X Y : Unit → Prop} {x y : Option β} {r : β} (h : (if b = true then x else y) = some r) (hx : b = true → x = some r → X ()) (hy : ¬ b = true → y = some r → Y ()) : BIf b X Y := by
  cases b with
  | true => exact hx rfl h
  | false => exact hy (by simp) h

theorem bifE {β : Type} {α : Type} [DecidableEq α] {a b : α} {X Y : Unit → Prop} {x y : Option β} {r : β} (h : (if a = b then x else y) = some r) (hx : a = b → x = some r → X ()) (hy : ¬ a = b → y = some r → Y ()) : BIf (a == b) X Y := by
  by_cases hc : a = b
  · rw [if_pos hc] at h; rw [beq_iff_eq.2 hc]; exact hx hc h
  · rw [if_neg hc] at h; rw [beq_eq_false_iff_ne.2 hc]; exact hy hc h

theorem bifN {β : Type} {a b : Int} {X Y : Unit → Prop} {x y : Option β} {r : β} (h : (if a = b then y else x) = some r) (hx : ¬ a = b → x = some r → X ()) (hy : a = b → y = some r → Y ()) : BIf (a != b) X Y := by
  by_cases hc : a = b
  · rw [if_pos hc] at h; have : (a != b) = false := by simp [hc]
    rw [this]; exact hy hc h
  · rw [if_neg hc] at h; have : (a != b) = true := by simp [hc]
    rw [this]; exact hx hc h

theorem bifNot {b : Bool} {X Y : Unit → Prop} (h : BIf b Y X) : BIf (!b) X Y := by
  cases b <;> exact h

/-- the element at i -/
def elt {α : Type} (xs : List α) (i : Int) : Option α := if 0 ≤ i then xs[i.toNat]? else none

theorem elt_get {α : Type} {xs : List α} {i : Int} {a : α} (h : elt xs i = some a) : 0 ≤ i ∧ i.toNat < xs.length ∧ xs[i.toNat]? = some a := by
  unfold elt at h
  split at h
  · next h0 =>
    refine ⟨h0, ?_, h⟩
    rcases Nat.lt_or_ge i.toNat xs.length with h' | h'
    · exact h'
    · rw [List.getElem?_eq_none h'] at h; simp at h
  · simp at h

theorem elt_set {α : Type} {xs : List α} {i : Int} {a b : α} (h : elt xs i = some a) : elt (xs.set i.toNat b) i = some b := by
  obtain ⟨h0, h1, _⟩ := elt_get h
  unfold elt
  rw [if_pos h0, List.getElem?_set_self h1]

theorem bin_rem {P : Program} {t : TypeId} {k : IntKind} {a b : Int} (h : ¬ b = 0) : cbin P .rem t (.int k a) (.int k b) = some (.int k (a.tmod b)) := by
  simp [cbin, cint, h]
/-! ### rows and blocks that stand for typed lists -/
section
variable {P : Program} {α : Type} {enc : α → List CV} {sz : Nat}

theorem uf8 (henc : ∀ a, (enc a).length = sz) : ∀ (l : List α), (l.flatMap enc).length = l.length * sz
  | [] => by simp
  | a :: l => by simp only [List.flatMap_cons, List.length_append, henc, uf8 henc l, List.length_cons, Nat.add_mul, Nat.one_mul]; omega

theorem flat_get (henc : ∀ a, (enc a).length = sz) : ∀ (l : List α) (i j : Nat) (a : α), l[i]? = some a → j < sz → (l.flatMap enc)[i * sz + j]? = (enc a)[j]?
  | [], i, j, a, h, _ => by simp at h
  | b :: l, i, j, a, h, hj => by
    rw [List.flatMap_cons]
    cases i with
    | zero =>
      simp at h; subst h
      rw [Nat.zero_mul, Nat.zero_add, List.getElem?_append_left (by rw [henc]; exact hj)]
    | succ i =>
      rw [List.getElem?_append_right (by rw [henc, Nat.add_mul]; omega), henc]
      rw [show (i + 1) * sz + j - sz = i * sz + j by rw [Nat.add_mul]; omega]
      exact flat_get henc l i j a (by simpa using h) hj

theorem flat_drop (henc : ∀ a, (enc a).length = sz) (l : List α) (i : Nat) (a : α) (h : l[i]? = some a) : ((l.flatMap enc).drop (i * sz)).take sz = enc a := by
  refine List.ext_getElem? fun j => ?_
  by_cases hj : j < sz
  · rw [List.getElem?_take_of_lt hj, List.getElem?_drop, flat_get henc l i j a h hj]
  · rw [List.getElem?_eq_none (by simp; omega), List.getElem?_eq_none (by rw [henc]; omega)]

theorem putCells_left : ∀ (cs a b : List CV) (o : Nat), o + cs.length ≤ a.length → putCells (a ++ b) o cs = putCells a o cs ++ b
  | [], a, b, o, h => rfl
  | x :: cs, a, b, o, h => by
    simp only [List.length_cons] at h
    show putCells ((a ++ b).set o x) (o + 1) cs = putCells (a.set o x) (o + 1) cs ++ b
    rw [List.set_append_left _ _ (by omega)]
    exact putCells_left cs (a.set o x) b (o + 1) (by simp; omega)

theorem uj5 : ∀ (cs a b : List CV) (o : Nat), putCells (a ++ b) (a.length + o) cs = a ++ putCells b o cs
  | [], a, b, o => rfl
  | x :: cs, a, b, o => by
    show putCells ((a ++ b).set (a.length + o) x) (a.length + o + 1) cs = a ++ putCells (b.set o x) (o + 1) cs
    rw [List.set_append_right _ _ (by omega)]
    rw [show a.length + o - a.length = o by omega]
    exact uj5 cs a (b.set o x) (o + 1)

theorem flat_put (henc : ∀ a, (enc a).length = sz) {cs : List CV} {j : Nat} (hj : j + cs.length ≤ sz) {a' : α} : ∀ (l : List α) (i : Nat) (a : α), l[i]? = some a → putCells (enc a) j cs = enc a' → putCells (l.flatMap enc) (i * sz + j) cs = (l.set i a').flatMap enc
  | [], i, a, h, _ => by simp at h
  | b :: l, i, a, h, hp => by
    rw [List.flatMap_cons]
    cases i with
    | zero =>
      simp at h; subst h
      rw [Nat.zero_mul, Nat.zero_add, putCells_left _ _ _ _ (by rw [henc]; exact hj), hp]
      rfl
    | succ i =>
      rw [show (i + 1) * sz + j = (enc b).length + (i * sz + j) by rw [henc, Nat.add_mul]; omega, uj5, flat_put henc hj l i a (by simpa using h) hp]
      rfl

theorem up3 {lo b s : Nat} {l : List α} {i : Int} {a a' : α} {j : Nat} {v : CV} (henc : ∀ a, (enc a).length = sz) (h : elt l i = some a) (hlo : lo ≤ b) (hs : v.cells.length = s) (hj : j + s ≤ sz) (hc : v.cells.all ui1 = true)
    (hp : putCells (enc a) j v.cells = enc a') : uj9 lo b (i.toNat * sz + j) s (l.flatMap enc) v ((l.set i.toNat a').flatMap enc) := by
  obtain ⟨h0, h1, h2⟩ := elt_get h
  refine ⟨hlo, hs, ?_, hc, flat_put henc (by rw [hs]; exact hj) l _ a h2 hp⟩
  rw [uf8 henc]
  calc i.toNat * sz + j + s ≤ i.toNat * sz + sz := by omega
    _ = (i.toNat + 1) * sz := by rw [Nat.add_mul, Nat.one_mul]
    _ ≤ l.length * sz := Nat.mul_le_mul_right sz h1

theorem app_live {z : List CV} {noz : Bool} {by' lo b len : Nat} {l : List α} {c : α} (hlen : len = l.length) (hz : z.length = sz) (hn : noz = true) (h1 : 1 ≤ by') (h2 : by' < 4294967296) (hlo : lo ≤ b) (henc : ∀ a, (enc a).length = sz)
    (hg : l.length < 1073741824) (hb : by' ≤ 65536) (hc : (enc c).all ui1 = true) : ug6 z noz sz sz sz by' lo b 0 len 1 (l.flatMap enc) (enc c) (l ++ [c]).length ((l ++ [c]).flatMap enc) where
  hz := hz
  hnoz := hn
  hssz := rfl
  hysz := rfl
  hby1 := h1
  hby2 := h2
  hoff := rfl
  hk := Nat.le_refl _
  hlo := hlo
  hgrow := by
    subst hlen
    have : (l.length + 1) * by' ≤ 1073741824 * 65536 := Nat.mul_le_mul (by omega) hb
    unfold growBytes; omega
  hhave0 := by subst hlen; rw [uf8 henc]; exact Nat.le_refl _
  hscal := hc
  hblk := by subst hlen; rw [← uf8 henc l, List.take_length]; simp
  hlen := by subst hlen; simp

theorem app_nil {z : List CV} {noz : Bool} {by' : Nat} {c : α} (hz : z.length = sz) (hn : noz = true) (h1 : 1 ≤ by') (h2 : by' < 4294967296) (hb : by' ≤ 65536) : AppNil z noz sz sz by' 1 (enc c) [c].length ([c].flatMap enc) where
  hz := hz
  hnoz := hn
  hysz := rfl
  hby1 := h1
  hby2 := h2
  hk := Nat.le_refl _
  hgrow := by unfold growBytes; omega
  hblk := by simp
  hlen := rfl

theorem ud0 {t e : TypeId} {l : List α} {i : Int} {a : α} {k : IntKind} {cap : Option Nat} (hT : P.underlying t = some (.slice e)) (hs : tsize P e = some sz) (h : elt l i = some a) :
    cindexAddr P t (.ro sz (l.map enc) cap) (.int k i) = some (.rop (enc a) 0) := by
  obtain ⟨h0, _, h2⟩ := elt_get h
  simp only [cindexAddr, asIdx, hT, hs]
  rw [if_neg (by omega)]
  simp [h2]

theorem uo7 {t e : TypeId} {l : List α} {i : Int} {a : α} {k : IntKind} {b len : Nat} {cap : Option Nat} (hT : P.underlying t = some (.slice e)) (hs : tsize P e = some sz) (h : elt l i = some a) (hlen : len = l.length) :
    cindexAddr P t (.slice sz b 0 len cap) (.int k i) = some (.ptr b (i.toNat * sz)) := by
  subst hlen
  obtain ⟨h0, h1, _⟩ := elt_get h
  simp only [cindexAddr, asIdx, hT, hs]
  rw [if_neg (by omega), if_pos (by rw [Nat.blt_eq]; exact h1)]
  simp

theorem ud1 {ts : Array TypeId} {t e : TypeId} {l : List α} {cap : Option Nat} (h : ts[0]? = some t) (hT : P.underlying t = some (.slice e)) : clen P ts (.ro sz (l.map enc) cap) = some (.int .i64 (l.length : Int)) := by
  unfold clen
  simp only [h, hT, List.length_map]

theorem part_flat_all {t : TypeId} {l : List α} {i : Int} {a : α} (hg : aggT P t = some true) (hs : tsize P t = some sz) (henc : ∀ a, (enc a).length = sz) (h : elt l i = some a) : cpart P t (l.flatMap enc) (i.toNat * sz) = some (.agg (enc a)) := by
  obtain ⟨h0, h1, h2⟩ := elt_get h
  unfold cpart
  simp only [hg, hs]
  rw [if_pos, flat_drop henc l _ a h2]
  rw [uf8 henc]
  apply Nat.ble_eq_true_of_le
  calc i.toNat * sz + sz = (i.toNat + 1) * sz := by rw [Nat.add_mul, Nat.one_mul]
    _ ≤ l.length * sz := Nat.mul_le_mul_right sz h1

theorem renL_append {g : Nat → Option Nat} : ∀ {a b a' b' : List CV}, renL g a = some a' → renL g b = some b' → renL g (a ++ b) = some (a' ++ b')
  | [], b, a', b', h, h' => by simp only [renL, Option.some.injEq] at h; subst h; exact h'
  | x :: a, b, a', b', h, h' => by
    simp only [renL] at h
    split at h <;> simp only [Option.some.injEq, reduceCtorEq] at h
    next y ys h1 h2 =>
    subst h
    simp only [List.cons_append, renL, h1, renL_append h2 h']

theorem ui8 : ∀ {a b : List CV}, uj6 a → uj6 b → uj6 (a ++ b)
  | [], b, _, h => h
  | x :: a, b, h, h' => ⟨h.1, ui8 h.2 h'⟩

theorem ub6 (h : ∀ a, ue1 (enc a)) : ∀ (l : List α), ue1 (l.flatMap enc)
  | [] => ⟨fun g => rfl, trivial⟩
  | a :: l => ⟨fun g => by rw [List.flatMap_cons]; exact renL_append ((h a).1 g) ((ub6 h l).1 g), by rw [List.flatMap_cons]; exact ui8 (h a).2 (ub6 h l).2⟩

/-! ### what is read-only, and what is given up -/
theorem ua2 {l : List α} {cap : Option Nat} (hc : ∀ a, ∀ x ∈ enc a, ub0 x) : ub0 (.ro sz (l.map enc) cap) :=
  uc4 fun c hm x hx => by
    obtain ⟨a, _, rfl⟩ := List.mem_map.1 hm
    exact hc a x hx

theorem ub1 {cs : List CV} {off : Nat} (hc : ∀ x ∈ cs, ub0 x) : ub0 (.rop cs off) := fun E ρ' L' v h => by
  cases h with
  | rop _ _ r base vs hI h1 h2 => exact .rop cs off r base vs hI h1 fun j x hj => hc x (List.mem_of_getElem? hj) E ρ' L' _ (h2 j x hj)

theorem uh5 {K : ua8} {b len : Nat} {l : List α} {cap : Option Nat} (hlen : len = l.length) (henc : ∀ a, (enc a).length = sz) (hc : ∀ a, ∀ x ∈ enc a, ub0 x) (hg : hget K b = some (l.flatMap enc)) : Frz K (.slice sz b 0 len cap) (.ro sz (l.map enc) none) := by
  subst hlen
  refine frz_slice hg (by simp) (fun c hm => ?_) (fun i j c x hi hj => ?_)
  · obtain ⟨a, _, rfl⟩ := List.mem_map.1 hm; exact henc a
  · rw [List.getElem?_map] at hi
    cases hl : l[i]? with
    | none => rw [hl] at hi; simp at hi
    | some a =>
      rw [hl] at hi; simp at hi; subst hi
      have hlt : j < sz := by
        rcases Nat.lt_or_ge j sz with h' | h'
        · exact h'
        · rw [List.getElem?_eq_none (by rw [henc]; exact h')] at hj; simp at hj
      refine ⟨x, ?_, ua4 (hc a x (List.mem_of_getElem? hj))⟩
      rw [Nat.zero_add, flat_get henc l i j a hl hlt, hj]

theorem frz_nil {K : ua8} {s : Nat} {c : Option Nat} : Frz K (.ro s [] c) (.ro sz (([] : List α).map enc) none) := by
  intro E v hH hv
  cases hv with
  | ro _ _ _ a cap' r o vs h1 h2 h3 h4 h5 h6 =>
    exact .ro sz [] none a cap' r o vs h1 (fun c hc => by simp at hc) (fun h => absurd rfl h) (fun c hc => by simp at hc) (fun i j c x hi => by simp at hi) (fun i j c x hi => by simp at hi)

theorem ua3 {Z : Prop} {H : ua8} {y : CV} (hc : ub0 y) : Reads Z H y y := fun E v hH hv =>
  (hc E (fun _ => none) (fun _ => False) v hv).le ⟨fun b r h => by simp at h, fun r h => ⟨.inl h, rfl⟩, fun _ => Nat.le_refl _⟩

theorem reads_agg {Z : Prop} {H : ua8} {ys xs : List CV} (hl : ys.length = xs.length) (h : ∀ (i : Nat) y x, ys[i]? = some y → xs[i]? = some x → Reads Z H y x) : Reads Z H (.agg ys) (.agg xs) := by
  intro E v hH hv
  cases hv with
  | agg _ vs h1 h2 =>
    refine .agg xs vs (by rw [h1, hl]) fun i x v hx hv => ?_
    have hlt : i < ys.length := by
      rcases Nat.lt_or_ge i xs.length with h' | h'
      · omega
      · rw [List.getElem?_eq_none h'] at hx; simp at hx
    exact h i ys[i] x (List.getElem?_eq_getElem hlt) hx E v hH (h2 i _ v (List.getElem?_eq_getElem hlt) hv)

/-- lists of values, place by place -/
def ReadsL (Z : Prop) (H : ua8) : List CV → List CV → Prop
  | [], [] => True
  | y :: ys, x :: xs => Reads Z H y x ∧ ReadsL Z H ys xs
  | _, _ => False

theorem uf7 {Z : Prop} {H : ua8} : ∀ {ys xs : List CV}, ReadsL Z H ys xs → ys.length = xs.length ∧ ∀ (i : Nat) y x, ys[i]? = some y → xs[i]? = some x → Reads Z H y x
  | [], [], _ => ⟨rfl, fun i y x h => by simp at h⟩
  | y :: ys, x :: xs, h => by
    obtain ⟨h1, h2⟩ := uf7 h.2
    refine ⟨by simp [h1], fun i y' x' hy hx => ?_⟩
    cases i with
    | zero => simp at hy hx; subst hy; subst hx; exact h.1
    | succ i => exact h2 i y' x' (by simpa using hy) (by simpa using hx)
  | [], _ :: _, h => h.elim
  | _ :: _, [], h => h.elim

def FrzL (K : ua8) : List CV → List CV → Prop
  | [], [] => True
  | y :: ys, x :: xs => Frz K y x ∧ FrzL K ys xs
  | _, _ => False

theorem frzL_get {K : ua8} : ∀ {ys xs : List CV}, FrzL K ys xs → ys.length = xs.length ∧ ∀ (i : Nat) y x, ys[i]? = some y → xs[i]? = some x → Frz K y x
  | [], [], _ => ⟨rfl, fun i y x h => by simp at h⟩
  | y :: ys, x :: xs, h => by
    obtain ⟨h1, h2⟩ := frzL_get h.2
    refine ⟨by simp [h1], fun i y' x' hy hx => ?_⟩
    cases i with
    | zero => simp at hy hx; subst hy; subst hx; exact h.1
    | succ i => exact h2 i y' x' (by simpa using hy) (by simpa using hx)
  | [], _ :: _, h => h.elim
  | _ :: _, [], h => h.elim

theorem ue4 {K : ua8} {ys xs : List CV} (h : FrzL K ys xs) : Frz K (.agg ys) (.agg xs) := frz_agg (frzL_get h).1 (frzL_get h).2
theorem uh4 {K : ua8} {ys xs : List CV} (h : FrzL K ys xs) : Frz K (.tup ys) (.tup xs) := frz_tup (frzL_get h).1 (frzL_get h).2
theorem ub5 {Z : Prop} {H : ua8} {ys xs : List CV} (h : ReadsL Z H ys xs) : Reads Z H (.agg ys) (.agg xs) := reads_agg (uf7 h).1 (uf7 h).2

def CleanL : List CV → Prop
  | [] => True
  | x :: xs => ub0 x ∧ CleanL xs
theorem ua9 : ∀ {xs : List CV}, CleanL xs → ∀ x ∈ xs, ub0 x
  | [], _, x, h => by simp at h
  | y :: xs, h, x, hx => by
    rcases List.mem_cons.1 hx with rfl | hx
    · exact h.1
    · exact ua9 h.2 x hx
theorem uc1 {xs : List CV} (h : CleanL xs) : ub0 (.agg xs) := clean_agg (ua9 h)
theorem clean_tupL {xs : List CV} (h : CleanL xs) : ub0 (.tup xs) := clean_tup (ua9 h)

/-- a call, by the contract on data -/
theorem ub4 {f : FuncId} {fn : Func} {args args' : List CV} {x : CV} {H : ua8} {n lo : Nat} (Z : Prop) (hf : P.funcs[f]? = some fn) (hb : fn.body.isSome = true) (hn : (fn.name == "runtime.NumGoroutine") = false) (h : PC P f args' x) (hr : ReadsL Z H args args')
    (ht : x.Tidy) (hp : Z → x.Plain) (hs : x.sh n = x) : ub8 P f args H n lo x H n := by
  refine ⟨⟨fn, hf, hb, hn⟩, .refl, ?_⟩
  obtain ⟨h1, h2⟩ := uf7 hr
  have := hc_frame (P := P) (t := 0) Z (hc_of_pc h [] 0) H n h1.symm h2 ht hp (fun b blk hb => by simp [uc2] at hb)
  rw [hs] at this
  exact this

/-- the function's contract on data, out of the walk from its beginning -/
theorem uj7 {f : FuncId} {fn : Func} {c : Code} {args : List CV} {top : Nat} {x : CV} (hf : P.funcs[f]? = some fn) (hb : fn.body = some c) (hl : Nat.ble args.length fn.ntmps = true) (hc : CleanL args) (hx : ub0 x)
    (h : Goes P f fn.ntmps 0 top [.code c] ⟨argTm args 0 [], [], 0⟩ fun y K => Frz K y x) : PC P f args x :=
  pc_of_hc (uo4 hf hb (Nat.le_of_ble_eq_true hl) h) (ua9 hc) hx fun y K h => h

/-- a function without arguments that was run and says true -/
def saysTrue : Option (CV × ua8 × Nat) → Bool
  | some (x, _, _) => (match x with | .bool true => true | _ => false)
  | none => false

theorem pc_true {f : FuncId} (hN : NoNum P) (fuel d : Nat) (h : saysTrue (fevalCall P fuel d f [] [] 0 0) = true) : PC P f [] (.bool true) := by
  rw [fevalCall_eq] at h
  cases he : evalCall P fuel d f [] [] 0 0 with
  | none => rw [he] at h; simp [saysTrue] at h
  | some r =>
    obtain ⟨x, H, n⟩ := r
    rw [he] at h
    have hx : x = .bool true := by
      unfold saysTrue at h
      simp only at h
      split at h
      · rfl
      · simp at h
    subst hx
    obtain ⟨_, _, hc⟩ := evalCall_sound hN fuel d f [] [] 0 0 _ H n he
    exact pc_of_hc hc (fun y hy => nomatch hy) ua5 fun y K hq => by
      obtain ⟨rfl, rfl⟩ := hq
      exact ua4 ua5

theorem bndL {α β : Type} {o : Option α} {f : α → Option β} {r : β} {p : Prop} (h : o.bind f = some r) (k : ∀ q, o = some q → f q = some r → p) : p := by
  cases o with
  | none => simp at h
  | some x => exact k x rfl h

theorem deadK {β : Type} {r : β} {p : Prop} (h : (none : Option β) = some r) : p := by cases h

/-- the code's control alone, along these decisions (one a branch, one a loop that is entered), to a loop's beginning or to where the code meets again -/
def dsc : Nat → List Bool → List Item → List Item
  | 0, _, todo => todo
  | f + 1, bs, todo => match todo with
    | [] => []
    | .code c :: k => (match c with
      | .loop b => (match bs with | [] => todo | _ :: bs => dsc f bs (.code b :: .inLoop b :: k))
      | .cond _ t e => (match bs with | [] => todo | b :: bs => dsc f bs ((match b with | true => .code t | false => .code e) :: k))
      | .ret => todo
      | .region _ _ _ => dsc f bs k
      | .seq a b => dsc f bs (.code a :: .code b :: k)
      | .block id b => dsc f bs (.code b :: .inBlock id :: k)
      | .scope b => dsc f bs (.code b :: .inScope b :: k)
      | .exit id => (match exitTo id k with | some k' => dsc f bs k' | none => [])
      | .goto l => (match gotoIn l k with | some k' => dsc f bs k' | none => [])
      | _ => dsc f bs k)
    | .inLoop b :: k => dsc f bs (.code (.loop b) :: k)
    | _ :: k => dsc f bs k

/-- into the loop that stands at the head -/
def enter : List Item → List Item
  | .code (.loop b) :: k => .code b :: .inLoop b :: k
  | todo => todo

def bodyOf (fn : Func) : Code := match fn.body with | some c => c | none => .skip

end
end Go.Cn
end
