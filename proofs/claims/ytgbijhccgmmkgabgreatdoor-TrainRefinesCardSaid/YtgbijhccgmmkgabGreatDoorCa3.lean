/- The canonical calculus: steps, calls, drawn regions. -/
import Derived.Test.YtgbijhccgmmkgabGreatDoorCa2
import Derived.Laws.Sem
import Derived.Laws.Entries
set_option linter.unusedVariables false
set_option linter.unusedSimpArgs false
noncomputable section
namespace Go.Cn

theorem ud9 (r o n : Nat) : (⟨r, o, none⟩ : Addr).add n = ⟨r, o + n, none⟩ := by
  unfold Addr.add; split
  · next h => subst h; rfl
  · rfl

/-! ### constants, operands -/
theorem up7 {E : Env} {v : Value} {x : CV} (h : ofScalar v = some x) : VR E x v := by
  unfold ofScalar at h
  split at h <;> simp only [Option.some.injEq, reduceCtorEq] at h
  · subst h; exact .bool _
  · subst h; exact .int _ _
  · next s => subst h; exact .str s.data.toList
  · subst h; exact .nilptr
  · subst h
    refine .ro 1 [] (some 0) none 0 0 0 (fun _ _ => undef) (Nat.le_refl _) (fun c hc => Option.some.inj hc) (fun h => absurd rfl h) (fun c hc => by simp at hc) (fun i j c x hx => by simp at hx) (fun i j c x hx => by simp at hx)
  · subst h; exact .nilfn

theorem ue6 {E : Env} : ∀ {vs : List Value} {xs : List CV}, ofScalars vs = some xs → vs.length = xs.length ∧ ∀ (i : Nat) x v, xs[i]? = some x → vs[i]? = some v → VR E x v
  | [], xs, h => by simp [ofScalars] at h; subst h; simp
  | v :: vs, xs, h => by
    simp only [ofScalars] at h
    split at h <;> simp only [Option.some.injEq, reduceCtorEq] at h
    next x ys hx hys =>
      subst h
      obtain ⟨h1, h2⟩ := ue6 hys
      refine ⟨by simp [h1], fun i y u hy hu => ?_⟩
      cases i with
      | zero => simp at hy hu; subst hy; subst hu; exact up7 hx
      | succ i => simp at hy hu; exact h2 i y u hy hu

theorem ofValue_sound {E : Env} {v : Value} {x : CV} (h : ofValue v = some x) : VR E x v := by
  unfold ofValue at h
  split at h
  · next cs =>
    split at h <;> simp only [Option.some.injEq, reduceCtorEq] at h
    next xs hxs =>
      subst h
      obtain ⟨h1, h2⟩ := ue6 (E := E) hxs
      exact .agg xs cs (by simpa using h1) fun i x v hx hv => h2 i x v hx (by simpa using hv)
  · next cs =>
    split at h <;> simp only [Option.some.injEq, reduceCtorEq] at h
    next xs hxs =>
      subst h
      obtain ⟨h1, h2⟩ := ue6 (E := E) hxs
      exact .tup xs cs (by simpa using h1) fun i x v hx hv => h2 i x v hx (by simpa using hv)
  · exact up7 h

def TR (E : Env) (tm : CTm) (a : Act) : Prop := ∀ t x, tget tm t = some x → VR E x (a.tmps.getD t undef)

theorem ub7 {E : Env} {tm : CTm} {a : Act} (hT : TR E tm a) {o : Operand} {x : CV} (h : cval tm o = some x) : VR E x (a.eval o) := by
  cases o with
  | tmp t => exact hT t x h
  | const v => exact ofValue_sound h
  | global g => simp [cval] at h
  | func f => simp [cval] at h; subst h; exact .fn _ [] [] #[] #[] rfl rfl (fun i x v hx => by simp at hx) (fun i x v hx => by simp at hx)

theorem cvals_sound {E : Env} {tm : CTm} {a : Act} (hT : TR E tm a) : ∀ {os : List Operand} {xs : List CV}, cvals tm os = some xs →
    os.length = xs.length ∧ ∀ (i : Nat) x v, xs[i]? = some x → (os.map a.eval)[i]? = some v → VR E x v
  | [], xs, h => by simp [cvals] at h; subst h; simp
  | o :: os, xs, h => by
    simp only [cvals] at h
    split at h <;> simp only [Option.some.injEq, reduceCtorEq] at h
    next x ys hx hys =>
      subst h
      obtain ⟨h1, h2⟩ := cvals_sound hT hys
      refine ⟨by simp [h1], fun i y u hy hu => ?_⟩
      cases i with
      | zero => simp at hy hu; subst hy; subst hu; exact ub7 hT hx
      | succ i => simp only [List.map_cons, List.getElem?_cons_succ] at hy hu; exact h2 i y u hy hu

theorem cvals_vrs {E : Env} {tm : CTm} {a : Act} (hT : TR E tm a) {os : Array Operand} {xs : List CV} (h : cvals tm os.toList = some xs) : VRs E xs (os.map a.eval) := by
  obtain ⟨h1, h2⟩ := cvals_sound hT h
  exact ⟨by simpa using h1, fun i x v hx hv => h2 i x v hx (by simpa using hv)⟩

theorem up8 {E : Env} {x : CV} {v : Value} (h : VR E x v) : v.cells.size = x.cells.length ∧ ∀ (j : Nat) y u, x.cells[j]? = some y → v.cells[j]? = some u → VR E y u := by
  have one : ∀ {x : CV} {v : Value}, VR E x v → (∀ (j : Nat) y u, [x][j]? = some y → #[v][j]? = some u → VR E y u) := by
    intro x v h j y u hy hu
    cases j with
    | zero => simp at hy hu; subst hy; subst hu; exact h
    | succ j => simp at hy
  cases h with
  | agg cs vs h1 h2 => exact ⟨h1, h2⟩
  | bool b => exact ⟨rfl, one (.bool b)⟩
  | int k n => exact ⟨rfl, one (.int k n)⟩
  | str s => exact ⟨rfl, one (.str s)⟩
  | ptr b off ad h1 h2 => exact ⟨rfl, one (.ptr b off ad h1 h2)⟩
  | nilptr => exact ⟨rfl, one .nilptr⟩
  | rop cells off r base vs h1 h2 h3 => exact ⟨rfl, one (.rop cells off r base vs h1 h2 h3)⟩
  | slice sz b off len cap ad cap' h1 h2 h3 h4 => exact ⟨rfl, one (.slice sz b off len cap ad cap' h1 h2 h3 h4)⟩
  | ro sz xs cap a cap' r o vs h1 h2 h3 h4 h5 h6 => exact ⟨rfl, one (.ro sz xs cap a cap' r o vs h1 h2 h3 h4 h5 h6)⟩
  | fn f first captured fs cs h1 h2 h3 h4 => exact ⟨rfl, one (.fn f first captured fs cs h1 h2 h3 h4)⟩
  | nilfn => exact ⟨rfl, one .nilfn⟩
  | tup cs vs h1 h2 => exact ⟨rfl, one (.tup cs vs h1 h2)⟩

/-! ### types -/
section types
variable {P : Program} (w : World)

theorem run_typeInfo' {t : TypeId} {i : TypeInfo} (h : P.info? t = some i) : (typeInfo t).run P w = .ok i w := by
  simp [typeInfo, h]

theorem run_sizeOf' {t : TypeId} {s : Nat} (h : tsize P t = some s) : (sizeOf t).run P w = .ok s w := by
  unfold tsize at h
  split at h <;> simp only [Option.some.injEq, reduceCtorEq] at h
  next i hi => simp [sizeOf, run_typeInfo' w hi, h]

theorem run_isAgg {t : TypeId} {b : Bool} (h : aggT P t = some b) : (isAgg t).run P w = .ok b w := by
  unfold aggT at h
  split at h <;> simp only [Option.some.injEq, reduceCtorEq] at h
  · next fs hu => subst h; simp [isAgg, run_underlying hu]
  · next n e hu => subst h; simp [isAgg, run_underlying hu]
  · next d hu h1 h2 => 
    subst h
    simp only [isAgg, Sem.run_bind, run_underlying h2, Result.andThen_ok]
    rfl

end types

/-! ### reading cells -/
theorem run_loadCellsFrom {P : Program} {w : World} {ad : Addr} {vs : Nat → Value} (n : Nat) : ∀ (i : Nat) (acc : Array Value), (∀ j, i ≤ j → j < i + n → w.cell? (ad.add j) = some (vs j)) →
    (loadCellsFrom ad i n acc).run P w = .ok (acc ++ ((List.range n).map fun j => vs (i + j)).toArray) w := by
  induction n with
  | zero => intro i acc _; simp [loadCellsFrom]
  | succ n ih =>
    intro i acc h
    have h0 := h i (Nat.le_refl _) (by omega)
    simp only [loadCellsFrom, Sem.run_bind, run_load, h0, Result.andThen_ok]
    rw [ih (i + 1) (acc.push (vs i)) (fun j h1 h2 => h j (by omega) (by omega))]
    congr 1
    apply Array.ext'
    simp [List.range_succ_eq_map, List.map_map, Function.comp_def, Nat.add_assoc, Nat.add_comm 1]

theorem run_loadCells {P : Program} {w : World} {ad : Addr} {vs : Nat → Value} (n : Nat) (h : ∀ j, j < n → w.cell? (ad.add j) = some (vs j)) :
    (loadCells ad n).run P w = .ok ((List.range n).map vs).toArray w := by
  unfold loadCells
  rw [run_loadCellsFrom n 0 #[] (fun j _ h2 => h j (by omega))]
  simp

/-- a row of canonical cells lies in the world at ⟨r, base⟩ -/
def Lies (E : Env) (cells : List CV) (r base : Nat) : Prop :=
  ∃ vs : Nat → Value, (∀ (j : Nat) x, cells[j]? = some x → E.w.cell? ⟨r, base + j, none⟩ = some (vs j)) ∧ ∀ (j : Nat) x, cells[j]? = some x → VR E x (vs j)

theorem lies_of_br {E : Env} {blk : List CV} {r : Nat} (h : BR E blk r) : Lies E blk r 0 := by
  obtain ⟨c, el, lo, hi, hc, _, hs, hx⟩ := h
  refine ⟨fun j => c.getD j undef, fun j x hj => ?_, fun j x hj => ?_⟩
  · have hl : j < blk.length := by
      rcases Nat.lt_or_ge j blk.length with h | h
      · exact h
      · rw [List.getElem?_eq_none h] at hj; simp at hj
    have : j < c.size := by omega
    simp [World.cell?, hc, this]
  · have hl : j < blk.length := by
      rcases Nat.lt_or_ge j blk.length with h | h
      · exact h
      · rw [List.getElem?_eq_none h] at hj; simp at hj
    have : j < c.size := by omega
    refine hx j x _ hj ?_
    simp [this]

theorem lies_drop {E : Env} {cells : List CV} {r base : Nat} (k : Nat) (h : Lies E cells r base) : Lies E (cells.drop k) r (base + k) := by
  obtain ⟨vs, h1, h2⟩ := h
  refine ⟨fun j => vs (k + j), fun j x hj => ?_, fun j x hj => ?_⟩
  · rw [List.getElem?_drop] at hj
    have := h1 (k + j) x hj
    rwa [← Nat.add_assoc] at this
  · rw [List.getElem?_drop] at hj; exact h2 (k + j) x hj

theorem lies_take {E : Env} {cells : List CV} {r base : Nat} (k : Nat) (h : Lies E cells r base) : Lies E (cells.take k) r base := by
  obtain ⟨vs, h1, h2⟩ := h
  refine ⟨vs, fun j x hj => ?_, fun j x hj => ?_⟩ <;>
  · rw [List.getElem?_take] at hj
    split at hj
    · first | exact h1 j x hj | exact h2 j x hj
    · simp at hj

/-- all cells at once -/
theorem run_lies {P : Program} {E : Env} {cells : List CV} {r base : Nat} (h : Lies E cells r base) :
    ∃ vs : Array Value, (loadCells ⟨r, base, none⟩ cells.length).run P E.w = .ok vs E.w ∧ vs.size = cells.length ∧ ∀ (j : Nat) x v, cells[j]? = some x → vs[j]? = some v → VR E x v := by
  obtain ⟨vs, h1, h2⟩ := h
  refine ⟨_, run_loadCells (vs := vs) cells.length (fun j hj => ?_), by simp, fun j x v hx hv => ?_⟩
  · rw [ud9]; exact h1 j _ (List.getElem?_eq_getElem hj)
  · simp only [List.getElem?_toArray, List.getElem?_map] at hv
    have hj : j < cells.length := by
      rcases Nat.lt_or_ge j cells.length with h | h
      · exact h
      · rw [List.getElem?_eq_none h] at hx; simp at hx
    simp [List.getElem?_range hj] at hv
    subst hv
    exact h2 j x hx

theorem cpart_load {P : Program} {E : Env} {t : TypeId} {cells : List CV} {off r base : Nat} {x : CV} (hl : Lies E cells r base) (h : cpart P t cells off = some x) :
    ∃ v, (loadVar t ⟨r, base + off, none⟩).run P E.w = .ok v E.w ∧ VR E x v := by
  unfold cpart at h
  split at h
  · next ha =>
    split at h <;> try (simp at h; done)
    next s hs =>
    split at h <;> simp only [Option.some.injEq, reduceCtorEq] at h
    next hle =>
    subst h
    have hle' : off + s ≤ cells.length := Nat.le_of_ble_eq_true hle
    obtain ⟨vs, h1, h2, h3⟩ := run_lies (P := P) (lies_take s (lies_drop off hl))
    have hlen : ((cells.drop off).take s).length = s := by simp; omega
    rw [hlen] at h1 h2
    exact ⟨.agg vs, by simp [loadVar, run_isAgg _ ha, run_sizeOf' _ hs, h1], .agg _ _ (by rw [hlen]; exact h2) h3⟩
  · next ha =>
    obtain ⟨vs, h1, h2⟩ := hl
    exact ⟨vs off, by simp [loadVar, run_isAgg _ ha, h1 off x h], h2 off x h⟩
  · simp at h

theorem cload_sound {P : Program} {E : Env} {H : ua8} (hH : HR E H) {t : TypeId} {p x : CV} {v : Value} (hv : VR E p v) (h : cload P t p H = some x) :
    ∃ u, (Instr.loadAt t v).run P E.w = .ok u E.w ∧ VR E x u := by
  unfold cload at h
  split at h
  · next b off =>
    split at h
    · next blk hg =>
      obtain ⟨r, hr, hbr⟩ := hH.get b blk hg
      cases hv with
      | ptr _ _ ad h1 h2 =>
        obtain rfl := h2 r hr
        obtain ⟨u, h3, h4⟩ := cpart_load (lies_of_br hbr) h
        rw [Nat.zero_add] at h3
        exact ⟨u, by simp [Instr.loadAt, Instr.sureAddr, h3], h4⟩
    · simp at h
  · next cells off =>
    cases hv with
    | rop _ _ r base vs hI h1 h2 =>
      obtain ⟨u, h3, h4⟩ := cpart_load ⟨vs, h1, h2⟩ h
      exact ⟨u, by simp [Instr.loadAt, Instr.sureAddr, h3], h4⟩
  · simp at h

theorem cpart_part {P : Program} {E : Env} {w : World} {t : TypeId} {cells : List CV} {vs : Array Value} {off : Nat} {x : CV} (hs : vs.size = cells.length)
    (hv : ∀ (j : Nat) y u, cells[j]? = some y → vs[j]? = some u → VR E y u) (h : cpart P t cells off = some x) : ∃ v, (part t vs off).run P w = .ok v w ∧ VR E x v := by
  unfold cpart at h
  split at h
  · next ha =>
    split at h <;> try (simp at h; done)
    next s hsz =>
    split at h <;> simp only [Option.some.injEq, reduceCtorEq] at h
    next hle =>
    subst h
    have hle' : off + s ≤ cells.length := Nat.le_of_ble_eq_true hle
    refine ⟨.agg (vs.extract off (off + s)), by simp [part, run_isAgg _ ha, run_sizeOf' _ hsz], .agg _ _ (by simp; omega) fun j y u hy hu => ?_⟩
    rw [List.getElem?_take] at hy
    split at hy <;> try (simp at hy; done)
    rw [List.getElem?_drop] at hy
    rw [Array.getElem?_extract] at hu
    split at hu <;> try (simp at hu; done)
    exact hv (off + j) y u hy hu
  · next ha =>
    have hj : off < cells.length := by
      rcases Nat.lt_or_ge off cells.length with h' | h'
      · exact h'
      · rw [List.getElem?_eq_none h'] at h; simp at h
    have hj' : off < vs.size := by omega
    refine ⟨vs[off], by simp [part, run_isAgg _ ha, Array.getElem?_eq_getElem hj'], hv off x _ h (Array.getElem?_eq_getElem hj')⟩
  · simp at h

/-! ### writing cells -/
theorem cell_of_hget {E : Env} {H : ua8} (hH : HR E H) {b r : Nat} {blk : List CV} (hg : hget H b = some blk) (hr : E.ρ b = some r) {o : Nat} (ho : o < blk.length) :
    (∃ v, E.w.cell? ⟨r, o, none⟩ = some v) ∧ E.w.frozen? ⟨r, o, none⟩ = false := by
  obtain ⟨r', hr', c, el, lo, hi, hc, hf, hs, hx⟩ := hH.get b blk hg
  obtain rfl : r' = r := by rw [hr] at hr'; exact (Option.some.inj hr').symm
  have : o < c.size := by omega
  refine ⟨⟨c[o], by simp [World.cell?, hc, this]⟩, ?_⟩
  simp only [World.frozen?, hc]
  simp
  omega

theorem up4 {E : Env} {x : CV} {v : Value} (h : VR E x v) (hs : ui1 x = true) : v.oneCell' = true := by
  cases h <;> first | rfl | simp [ui1] at hs

theorem ug9 {P : Program} (xs : List CV) : ∀ {E : Env} {H : ua8} {b r o i : Nat} {blk : List CV} {vs : List Value}, HR E H → hget H b = some blk → E.ρ b = some r → o + i + xs.length ≤ blk.length →
    vs.length = xs.length → (∀ (j : Nat) x v, xs[j]? = some x → vs[j]? = some v → VR E x v) → xs.all ui1 = true →
    ∃ E', (storeCells ⟨r, o, none⟩ vs i).run P E.w = .ok () E'.w ∧ Ex E E' ∧ HR E' (hset H b (putCells blk (o + i) xs)) ∧ E'.L = E.L ∧ E'.ρ = E.ρ ∧ E'.I = E.I := by
  induction xs with
  | nil =>
    intro E H b r o i blk vs hH hg hr _ hl _ _
    have : vs = [] := by simpa using hl
    subst this
    refine ⟨E, by simp [storeCells], .refl E, ?_, rfl, rfl, rfl⟩
    refine hH.sub fun b' blk' hb' => ?_
    rw [uf2] at hb'
    split at hb'
    · next e => subst e; rw [hg] at hb' ⊢; simpa [putCells] using hb'
    · exact hb'
  | cons x xs ih =>
    intro E H b r o i blk vs hH hg hr hle hl hv hsc
    cases vs with
    | nil => simp at hl
    | cons v vs =>
      simp only [List.length_cons] at hle hl
      have hxv : VR E x v := hv 0 x v rfl rfl
      have hs1 : ui1 x = true := by simp at hsc; exact hsc.1
      obtain ⟨⟨u, hu⟩, hfz⟩ := cell_of_hget hH hg hr (o := o + i) (by omega)
      have hH1 := set_hr (v := v) hH hg hr (o := o + i) (x := x) (by omega) hxv
      have hx1 := set_ex (o := o + i) (v := v) hH (hH.live b blk hg) hr
      have hg1 : hget (hset H b (blk.set (o + i) x)) b = some (blk.set (o + i) x) := by rw [uf2]; simp [hg]
      obtain ⟨E2, h1, h2, h3, h4, h5, h6⟩ := ih (E := E.set r (o + i) v) (o := o) (i := i + 1) (vs := vs) hH1 hg1 hr (by simp; omega) (by omega)
        (fun j y z hy hz => (hv (j + 1) y z (by simpa using hy) (by simpa using hz)).mono hx1) (by simp at hsc ⊢; exact hsc.2)
      refine ⟨E2, ?_, hx1.trans h2, ?_, h4, h5, h6⟩
      · simp only [storeCells, Sem.run_bind, ud9, run_store P E.w _ v _ (up4 hxv hs1), hu, hfz]
        simp only [Bool.false_eq_true, if_false, Result.andThen_ok]
        exact h1
      · refine h3.sub fun b' blk' hb' => ?_
        rw [uf2] at hb' ⊢
        rw [uf2]
        split at hb'
        · next e => subst e; rw [hg] at hb'; simpa [hg, putCells, Nat.add_assoc] using hb'
        · next e => simpa [e] using hb'

end Go.Cn
end
noncomputable section
namespace Go.Cn

section
variable {P : Program} {E : Env}

/-! ### numbers, strings, equality -/
theorem um4 {op : BinOp} {t : TypeId} {x y : Operand} {a b : Value} {w : World} (h1 : a ≠ .nilIface) (h2 : ∀ cs, a ≠ .agg cs) : (eqGuard op t x y a b).run P w = .ok () w := by
  unfold eqGuard
  cases op <;> simp <;> (split <;> simp_all)

/-- the value of a number, a bool, a text -/
def toV : CV → Value
  | .bool b => .bool b
  | .int k n => .int k n
  | .str s => .string ⟨⟨s⟩⟩
  | _ => undef

def plainV : CV → Bool
  | .bool _ => true
  | .int _ _ => true
  | .str _ => true
  | _ => false

theorem un6 {x : CV} (h : plainV x = true) : VR E x (toV x) := by
  cases x <;> first | (simp [plainV] at h; done) | constructor

theorem cint_sound {op : BinOp} {k : IntKind} {a b : Int} {x : CV} {t : TypeId} {w : World} (h1 : op ≠ .shl) (h2 : op ≠ .shr) (h : cint op k a b = some x) :
    (binOp op t (.int k a) (.int k b)).run P w = .ok (toV x) w ∧ plainV x = true := by
  cases op <;> simp only [cint, reduceCtorEq, Option.some.injEq, ne_eq] at h h1 h2 <;>
    first
    | (subst h; exact ⟨by simp [binOp, Op.intArith, Op.intBits, Op.intCmp, toV], rfl⟩)
    | (split at h <;> simp only [Option.some.injEq, reduceCtorEq] at h; next hb => subst h; exact ⟨by simp [binOp, Op.intDiv, hb, toV], rfl⟩)

theorem bytes_toList (x : List UInt8) : (⟨⟨x⟩⟩ : ByteArray).toList = x := by
  have h : ∀ (n i : Nat) (l : List UInt8), x.length - i = n → ByteArray.toList.loop ⟨⟨x⟩⟩ i l = l.reverse ++ x.drop i := by
    intro n
    induction n with
    | zero =>
      intro i l hi
      unfold ByteArray.toList.loop
      have : ¬ i < (⟨⟨x⟩⟩ : ByteArray).size := by simp [ByteArray.size]; omega
      simp [this, List.drop_eq_nil_of_le (show x.length ≤ i by omega)]
    | succ n ih =>
      intro i l hi
      unfold ByteArray.toList.loop
      have hi' : i < x.length := by omega
      have : i < (⟨⟨x⟩⟩ : ByteArray).size := by simpa [ByteArray.size] using hi'
      rw [if_pos this, ih (i + 1) _ (by omega), List.drop_eq_getElem_cons hi']
      simp [ByteArray.get!, hi']
  have := h x.length 0 [] (by omega)
  simpa [ByteArray.toList] using this

theorem cstr_sound {op : BinOp} {a b : List UInt8} {x : CV} {t : TypeId} {w : World} (h : cstr op a b = some x) :
    (binOp op t (.string ⟨⟨a⟩⟩) (.string ⟨⟨b⟩⟩)).run P w = .ok (toV x) w ∧ plainV x = true := by
  cases op <;> simp only [cstr, Option.some.injEq, reduceCtorEq] at h
  · split at h <;> simp only [Option.some.injEq, reduceCtorEq] at h
    next hle =>
    subst h
    have hle' : a.length + b.length ≤ 4611686018427387904 := Nat.le_of_ble_eq_true hle
    have hs : (a.length : Int) + (b.length : Int) ≤ 9223372036854775807 := by omega
    have hsz : ((ByteArray.size ⟨⟨a⟩⟩ : Nat) : Int) = a.length := by simp [ByteArray.size]
    have hsz' : ((ByteArray.size ⟨⟨b⟩⟩ : Nat) : Int) = b.length := by simp [ByteArray.size]
    have happ : (⟨⟨a⟩⟩ : ByteArray) ++ ⟨⟨b⟩⟩ = ⟨⟨a ++ b⟩⟩ := by
      apply ByteArray.ext
      simp [ByteArray.data_append]
    exact ⟨by simp [binOp, Op.stringOp, hsz, hsz', hs, happ, toV], rfl⟩
  · subst h; exact ⟨by simp [binOp, Op.stringOp, bytes_toList, toV], rfl⟩
  · subst h; exact ⟨by simp [binOp, Op.stringOp, bytes_toList, toV], rfl⟩

theorem equal_of {t : TypeId} {x y : Value} {w : World} {r : Result Bool} (h : ∀ d, (Op.equalIn (d + 1 + 1) t x y).run P w = r) : (Op.equal t x y).run P w = r := h 9998

theorem uk1 {xs : List CV} {vs : Array Value} {i : Nat} {x : CV} (h : xs[i]? = some x) (hs : vs.size = xs.length) : ∃ v, vs[i]? = some v := by
  have hj : i < xs.length := by
    rcases Nat.lt_or_ge i xs.length with h' | h'
    · exact h'
    · rw [List.getElem?_eq_none h'] at h; simp at h
  exact ⟨vs[i], Array.getElem?_eq_getElem (by omega)⟩

def eqBody (d : Nat) (vs us : Array Value) (f : Field) : Sem (ForInStep (Option Bool × Unit)) :=
  if f.name ≠ "_" then do
    let __do_lift ← part f.type vs f.offset
    let __do_lift_1 ← part f.type us f.offset
    let __do_lift ← Op.equalIn d f.type __do_lift __do_lift_1
    if (!__do_lift) = true then pure (ForInStep.done (some false, ()))
      else pure (ForInStep.yield (none, ()))
  else pure (ForInStep.yield (none, ()))

theorem ui9 {w : World} {t : TypeId} {vs : Array Value} {i : Nat} {v : Value} {d : TypeDesc} (hd : P.underlying t = some d) (h1 : ∀ fs, d ≠ .struct fs) (h2 : ∀ n e, d ≠ .array n e) (hv : vs[i]? = some v) :
    (part t vs i).run P w = .ok v w := by
  unfold part isAgg
  simp only [Sem.run_bind, run_underlying hd, Result.andThen_ok]
  cases d <;> simp_all

theorem ceqs_sound {w : World} (d : Nat) {xs ys : List CV} {vs us : Array Value} (h1 : vs.size = xs.length) (h2 : us.size = ys.length)
    (h3 : ∀ (i : Nat) x v, xs[i]? = some x → vs[i]? = some v → VR E x v) (h4 : ∀ (i : Nat) x v, ys[i]? = some x → us[i]? = some v → VR E x v) : ∀ (fs : List Field) (b : Bool), ceqs P fs xs ys = some b →
    (forIn fs ((none : Option Bool), ()) fun f _ => eqBody (d + 1) vs us f).run P w = .ok (if b then (none, ()) else (some false, ())) w := by
  intro fs
  induction fs with
  | nil => intro b h; simp [ceqs] at h; subst h; simp
  | cons f fs ih =>
    intro b h
    simp only [ceqs] at h
    split at h <;> try (simp at h; done)
    next hn =>
    have step : ∀ (e : Bool), (eqBody (d + 1) vs us f).run P w = .ok (if e then ForInStep.yield (none, ()) else ForInStep.done (some false, ())) w → (if e then ceqs P fs xs ys else some false) = some b →
        (forIn (f :: fs) ((none : Option Bool), ()) fun f _ => eqBody (d + 1) vs us f).run P w = .ok (if b then (none, ()) else (some false, ())) w := by
      intro e he hb
      rw [List.forIn_cons, Sem.run_bind, he, Result.andThen_ok]
      cases e with
      | true => exact ih b hb
      | false => simp at hb; subst hb; simp
    split at h
    · next k0 k a k' a' hu hx hy =>
      split at h <;> try (simp at h; done)
      next hk =>
      subst hk
      obtain ⟨v, hv⟩ := uk1 hx h1
      obtain ⟨u, hu'⟩ := uk1 hy h2
      have r1 := h3 _ _ _ hx hv
      have r2 := h4 _ _ _ hy hu'
      cases r1; cases r2
      refine step (a == a') ?_ (by simpa [beq_iff_eq] using h)
      unfold eqBody
      rw [if_pos hn]
      simp only [Sem.run_bind, ui9 hu (by simp) (by simp) hv, ui9 hu (by simp) (by simp) hu', Result.andThen_ok, Op.equalIn, run_underlying hu]
      by_cases e : a = a' <;> simp [e]
    · next a a' hu hx hy =>
      obtain ⟨v, hv⟩ := uk1 hx h1
      obtain ⟨u, hu'⟩ := uk1 hy h2
      have r1 := h3 _ _ _ hx hv
      have r2 := h4 _ _ _ hy hu'
      cases r1; cases r2
      refine step (a == a') ?_ (by simpa [beq_iff_eq] using h)
      unfold eqBody
      rw [if_pos hn]
      simp only [Sem.run_bind, ui9 hu (by simp) (by simp) hv, ui9 hu (by simp) (by simp) hu', Result.andThen_ok, Op.equalIn, run_underlying hu]
      by_cases e : a = a' <;> simp [e]
    · simp at h

theorem ceq_sound {w : World} {t : TypeId} {x y : CV} {v u : Value} {xo yo : Operand} {op : BinOp} {b : Bool} (hx : VR E x v) (hy : VR E y u) (h : ceq P t x y = some b) :
    (eqGuard op t xo yo v u).run P w = .ok () w ∧ (Op.equal t v u).run P w = .ok b w := by
  unfold ceq at h
  split at h <;> try (simp at h; done)
  · next a a' =>
    split at h <;> simp only [Option.some.injEq, reduceCtorEq] at h
    next hu =>
    cases hx; cases hy
    subst h
    refine ⟨um4 (by simp) (by simp), ?_⟩
    refine equal_of fun d => ?_
    simp [Op.equalIn, run_underlying hu]
  · next xs ys =>
    split at h <;> try (simp at h; done)
    next fs hu =>
    split at h <;> try (simp at h; done)
    next hg =>
    simp only [Bool.or_eq_true, not_or, Bool.not_eq_true] at hg
    cases hx with
    | agg _ vs h1 h2 =>
    cases hy with
    | agg _ us h3 h4 =>
    refine ⟨?_, ?_⟩
    · unfold eqGuard
      cases op <;> simp [hg.1]
    · refine equal_of fun d => ?_
      unfold Op.equalIn
      simp only [Sem.run_bind, run_underlying hu, Result.andThen_ok, run_program, hg.2, Bool.false_eq_true, if_false]
      have := ceqs_sound (w := w) d h1 h3 h2 h4 fs.toList b h
      rw [Array.forIn_toList] at this
      unfold eqBody at this
      rw [this]
      cases b <;> simp

end
end Go.Cn
end
noncomputable section
namespace Go.Cn

section
variable {P : Program} {E : Env}

theorem cbin_sound {w : World} {op : BinOp} {t : TypeId} {x y z : CV} {v u : Value} {xo yo : Operand} (hx : VR E x v) (hy : VR E y u) (h : cbin P op t x y = some z) :
    (eqGuard op t xo yo v u).run P w = .ok () w ∧ (binOp op t v u).run P w = .ok (toV z) w ∧ plainV z = true := by
  unfold cbin at h
  split at h
  · next k a k' b =>
    cases hx; cases hy
    refine ⟨um4 (by simp) (by simp), ?_⟩
    split at h
    · split at h <;> simp only [Option.some.injEq, reduceCtorEq] at h
      next hb => subst h; exact ⟨by simp [binOp, Op.shift, hb, toV], rfl⟩
    · split at h <;> simp only [Option.some.injEq, reduceCtorEq] at h
      next hb => subst h; exact ⟨by simp [binOp, Op.shift, hb, toV], rfl⟩
    · next h1 h2 =>
      split at h <;> try (simp at h; done)
      next hk => subst hk; exact cint_sound (by simpa using h1) (by simpa using h2) h
  · cases hx; cases hy
    exact ⟨um4 (by simp) (by simp), cstr_sound h⟩
  · next h1 h2 =>
    split at h
    · split at h <;> simp only [Option.some.injEq, reduceCtorEq] at h
      next b hb =>
      subst h
      obtain ⟨h3, h4⟩ := ceq_sound (op := .eql) (xo := xo) (yo := yo) (w := w) hx hy hb
      refine ⟨h3, ?_, rfl⟩
      unfold ceq at hb
      split at hb <;> try (simp at hb; done)
      · cases hx; cases hy; simp [binOp, h4, toV]
      · cases hx; cases hy; simp [binOp, h4, toV]
    · split at h <;> simp only [Option.some.injEq, reduceCtorEq] at h
      next b hb =>
      subst h
      obtain ⟨h3, h4⟩ := ceq_sound (op := .neq) (xo := xo) (yo := yo) (w := w) hx hy hb
      refine ⟨h3, ?_, rfl⟩
      unfold ceq at hb
      split at hb <;> try (simp at hb; done)
      · cases hx; cases hy; simp [binOp, h4, toV]
      · cases hx; cases hy; simp [binOp, h4, toV]
    · simp at h

theorem cun_sound {w : World} {op : UnOp} {x z : CV} {v : Value} (hx : VR E x v) (h : cun op x = some z) : (Op.unary op v).run P w = .ok (toV z) w ∧ plainV z = true := by
  unfold cun at h
  split at h <;> simp only [Option.some.injEq, reduceCtorEq] at h
  · cases hx; subst h; exact ⟨by simp [Op.unary, Op.intArith, toV], rfl⟩
  · cases hx; subst h; exact ⟨by simp [Op.unary, toV], rfl⟩

theorem asIdx_sound {w : World} {x : CV} {v : Value} {i : Int} (hx : VR E x v) (h : asIdx x = some i) : ∃ k, (asIntOf v).run P w = .ok (k, i) w := by
  unfold asIdx at h
  split at h <;> simp only [Option.some.injEq, reduceCtorEq] at h
  subst h; cases hx
  exact ⟨_, by simp [asIntOf]; rfl⟩

theorem cindexAddr_sound {w : World} {t : TypeId} {x i z : CV} {v u : Value} (hx : VR E x v) (hi : VR E i u) (h : cindexAddr P t x i = some z) :
    ∃ r, (Instr.indexAt t v u).run P w = .ok r w ∧ VR E z r := by
  unfold cindexAddr at h
  split at h <;> try (simp at h; done)
  next iv hiv =>
  obtain ⟨k, hk⟩ := asIdx_sound (P := P) (w := w) hi hiv
  split at h <;> try (simp at h; done)
  next hneg =>
  have h0 : 0 ≤ iv := by omega
  split at h
  · next e sz b off len cap hu =>
    split at h <;> try (simp at h; done)
    next hlt =>
    split at h <;> try (simp at h; done)
    next s hs =>
    split at h <;> simp only [Option.some.injEq, reduceCtorEq] at h
    next hsz =>
    obtain rfl := Nat.eq_of_beq_eq_true hsz
    subst h
    have hlt' : iv.toNat < len := by simpa [Nat.blt_eq] using hlt
    cases hx with
    | slice _ _ _ _ _ ad cap' h1 h2 h3 h4 =>
    refine ⟨.pointer (some (ad.add (iv.toNat * s))), ?_, .ptr b _ _ h1 fun r hr => ?_⟩
    · simp only [Instr.indexAt, Sem.run_bind, hk, Result.andThen_ok, run_underlying hu, Sem.run_pure]
      simp only [Sem.run_bind, Sem.run_ite, run_underlying hu, Result.andThen_ok, Sem.run_pure, run_sizeOf' w hs, if_pos (show 0 ≤ iv ∧ iv < (len : Int) from ⟨h0, by omega⟩)]
    · rw [(h2 r hr).1, ud9]
  · next e sz xs cap hu =>
    split at h <;> try (simp at h; done)
    next c hc =>
    split at h <;> try (simp at h; done)
    next s hs =>
    split at h <;> simp only [Option.some.injEq, reduceCtorEq] at h
    next hsz =>
    obtain rfl := Nat.eq_of_beq_eq_true hsz
    subst h
    have hlt : iv.toNat < xs.length := by
      rcases Nat.lt_or_ge iv.toNat xs.length with h' | h'
      · exact h'
      · rw [List.getElem?_eq_none h'] at hc; simp at hc
    cases hx with
    | ro _ _ _ a cap' r o vs h1 h2 h3 h4 h5 h6 =>
    have hne : xs ≠ [] := by rintro rfl; simp at hlt
    obtain ⟨ha, hI⟩ := h3 hne
    subst ha
    refine ⟨.pointer (some ⟨r, o + iv.toNat * s + 0, none⟩), ?_, .rop c 0 r (o + iv.toNat * s) (fun j => vs iv.toNat j) hI (fun j x hj => h5 _ j c x hc hj) (fun j x hj => h6 _ j c x hc hj)⟩
    simp only [Instr.indexAt, Sem.run_bind, hk, Result.andThen_ok, run_underlying hu, Sem.run_pure]
    simp only [Sem.run_bind, Sem.run_ite, run_underlying hu, Result.andThen_ok, Sem.run_pure, run_sizeOf' w hs, if_pos (show 0 ≤ iv ∧ iv < (xs.length : Int) from ⟨h0, by omega⟩), ud9, Nat.add_zero]
  · next len e b off hu =>
    split at h <;> try (simp at h; done)
    next hlt =>
    split at h <;> simp only [Option.some.injEq, reduceCtorEq] at h
    next s hs =>
    subst h
    have hlt' : iv.toNat < len := by simpa [Nat.blt_eq] using hlt
    cases hx with
    | ptr _ _ ad h1 h2 =>
    refine ⟨.pointer (some (ad.add (iv.toNat * s))), ?_, .ptr b _ _ h1 fun r hr => ?_⟩
    · simp only [Instr.indexAt, Sem.run_bind, hk, Result.andThen_ok, run_underlying hu, Sem.run_pure, Instr.sureAddr]
      simp only [Sem.run_bind, Sem.run_ite, run_underlying hu, Result.andThen_ok, Sem.run_pure, run_sizeOf' w hs, if_pos (show 0 ≤ iv ∧ iv < (len : Int) from ⟨h0, by omega⟩)]
    · rw [h2 r hr, ud9]
  · next len e c off hu =>
    split at h <;> try (simp at h; done)
    next hlt =>
    split at h <;> simp only [Option.some.injEq, reduceCtorEq] at h
    next s hs =>
    subst h
    have hlt' : iv.toNat < len := by simpa [Nat.blt_eq] using hlt
    cases hx with
    | rop _ _ r base vs h1 h2 h3 =>
    refine ⟨.pointer (some ⟨r, base + (off + iv.toNat * s), none⟩), ?_, .rop c _ r base vs h1 h2 h3⟩
    simp only [Instr.indexAt, Sem.run_bind, hk, Result.andThen_ok, run_underlying hu, Sem.run_pure, Instr.sureAddr]
    simp only [Sem.run_bind, Sem.run_ite, run_underlying hu, Result.andThen_ok, Sem.run_pure, run_sizeOf' w hs, if_pos (show 0 ≤ iv ∧ iv < (len : Int) from ⟨h0, by omega⟩), ud9, Nat.add_assoc]
  · simp at h

theorem cfieldAddr_sound {w : World} {t : TypeId} {x z : CV} {f : Nat} {v : Value} (hx : VR E x v) (h : cfieldAddr P t x f = some z) :
    ∃ r, (Instr.fieldAt t v f).run P w = .ok r w ∧ VR E z r := by
  unfold cfieldAddr at h
  split at h <;> try (simp at h; done)
  next fs hu =>
  split at h <;> try (simp at h; done)
  next fd hf =>
  split at h <;> try (simp at h; done)
  next s hs =>
  split at h <;> simp only [Option.some.injEq, reduceCtorEq] at h
  · next b off =>
    subst h
    cases hx with
    | ptr _ _ ad h1 h2 =>
    refine ⟨.pointer (some (ad.add fd.offset)), ?_, .ptr b _ _ h1 fun r hr => ?_⟩
    · simp [Instr.fieldAt, run_underlying hu, hf, Instr.sureAddr, fieldPlace, run_sizeOf' w hs]
    · rw [h2 r hr, ud9]
  · next c off =>
    subst h
    cases hx with
    | rop _ _ r base vs h1 h2 h3 =>
    refine ⟨.pointer (some ⟨r, base + (off + fd.offset), none⟩), ?_, .rop c _ r base vs h1 h2 h3⟩
    simp [Instr.fieldAt, run_underlying hu, hf, Instr.sureAddr, fieldPlace, run_sizeOf' w hs, ud9, Nat.add_assoc]

theorem cfield_sound {w : World} {t : TypeId} {x z : CV} {f : Nat} {v : Value} (hx : VR E x v) (h : cfield P t x f = some z) :
    ∃ r, (Instr.field t v f).run P w = .ok r w ∧ VR E z r := by
  unfold cfield at h
  split at h <;> try (simp at h; done)
  next fs cs hu =>
  split at h <;> try (simp at h; done)
  next fd hf =>
  cases hx with
  | agg _ vs h1 h2 =>
  obtain ⟨r, h3, h4⟩ := cpart_part (w := w) h1 h2 h
  exact ⟨r, by simp [Instr.field, run_underlying hu, hf, asAgg, h3], h4⟩

theorem cindex_sound {w : World} {t : TypeId} {x i z : CV} {v u : Value} (hx : VR E x v) (hi : VR E i u) (h : cindex P t x i = some z) :
    ∃ r, (Instr.index t v u).run P w = .ok r w ∧ VR E z r := by
  unfold cindex at h
  split at h <;> try (simp at h; done)
  next iv hiv =>
  obtain ⟨k, hk⟩ := asIdx_sound (P := P) (w := w) hi hiv
  split at h <;> try (simp at h; done)
  next hneg =>
  have h0 : 0 ≤ iv := by omega
  split at h <;> try (simp at h; done)
  · next len e cs hu =>
    split at h <;> try (simp at h; done)
    next hlt =>
    split at h <;> try (simp at h; done)
    next s hs =>
    have hlt' : iv.toNat < len := by simpa [Nat.blt_eq] using hlt
    cases hx with
    | agg _ vs h1 h2 =>
    obtain ⟨r, h3, h4⟩ := cpart_part (w := w) h1 h2 h
    refine ⟨r, ?_, h4⟩
    simp only [Instr.index, Sem.run_bind, hk, Result.andThen_ok, run_underlying hu, Sem.run_ite, if_pos (show 0 ≤ iv ∧ iv < (len : Int) from ⟨h0, by omega⟩), run_sizeOf' w hs, h3]
  · next s hu =>
    split at h <;> simp only [Option.some.injEq, reduceCtorEq] at h
    next b hb =>
    subst h
    cases hx with
    | str _ =>
    refine ⟨.int .u8 b.toNat, ?_, .int _ _⟩
    have hlt : iv.toNat < s.length := by
      rcases Nat.lt_or_ge iv.toNat s.length with h' | h'
      · exact h'
      · rw [List.getElem?_eq_none h'] at hb; simp at hb
    have hsz : iv.toNat < (⟨⟨s⟩⟩ : ByteArray).size := by simpa [ByteArray.size] using hlt
    have hb' : (⟨⟨s⟩⟩ : ByteArray)[iv.toNat]? = some b := by
      rw [getElem?_pos (⟨⟨s⟩⟩ : ByteArray) iv.toNat hsz]
      rw [List.getElem?_eq_getElem hlt] at hb
      exact hb
    simp only [Instr.index, Sem.run_bind, hk, Result.andThen_ok, run_underlying hu, if_pos h0, hb', Sem.run_pure]

end
end Go.Cn
end
noncomputable section
namespace Go.Cn

section
variable {P : Program} {E : Env}

/-! ### slice expressions -/
def OR (E : Env) : Option CV → Option Value → Prop
  | none, none => True
  | some x, some v => VR E x v
  | _, _ => False

theorem um9 {tm : CTm} {a : Act} (hT : TR E tm a) {o : Option Operand} {x : Option CV} (h : optVal tm o = some x) : OR E x (o.map a.eval) := by
  cases o with
  | none => simp [optVal] at h; subst h; trivial
  | some o =>
    simp only [optVal] at h
    split at h <;> simp only [Option.some.injEq, reduceCtorEq] at h
    next y hy => subst h; exact ub7 hT hy

theorem uf0 {w : World} {x : CV} {v : Value} {y y' k : Nat} {code : BoundsCode} (hx : VR E x v) (h : cbound x y = some k) (hy : y ≤ y') :
    (Instr.sliceBound v y' code).run P w = .ok k w ∧ k ≤ y := by
  unfold cbound at h
  split at h <;> try (simp at h; done)
  next kd i =>
  split at h <;> try (simp at h; done)
  next hneg =>
  split at h <;> simp only [Option.some.injEq, reduceCtorEq] at h
  next hle =>
  subst h
  cases hx
  have hle' := Nat.le_of_ble_eq_true hle
  have : 0 ≤ i ∧ i ≤ (y' : Int) := ⟨by omega, by omega⟩
  exact ⟨by simp [Instr.sliceBound, asIntOf, this], hle'⟩

theorem uh3 {w : World} {len top rc : Nat} {cap : Option Nat} {lo hi mx : Option CV} {low high max : Option Value} {b : Bool} {l h : Nat} {c : Option Nat}
    (h1 : OR E lo low) (h2 : OR E hi high) (h3 : OR E mx max) (ht : top ≤ rc) (hl : len ≤ rc) (hc : ∀ c, cap = some c → rc = c) (hb : cbounds len top cap lo hi mx = some (l, h, c)) :
    ∃ m, (Instr.sliceBounds b len rc low high max).run P w = .ok (l, h, m) w ∧ l ≤ h ∧ h ≤ m ∧ (∀ c', c = some c' → m = c') ∧ m ≤ rc ∧ (h ≤ top ∨ h = len) := by
  unfold cbounds at hb
  split at hb <;> try (simp at hb; done)
  next m c0 hm =>
  split at hb <;> try (simp at hb; done)
  next h0 hh =>
  split at hb <;> simp only [Option.some.injEq, reduceCtorEq, Prod.mk.injEq] at hb
  next l0 hl0 =>
  obtain ⟨rfl, rfl, rfl⟩ := hb
  cases max with
  | none =>
    cases mx with
    | some _ => simp [OR] at h3
    | none =>
    simp only [Option.some.injEq, Prod.mk.injEq] at hm
    obtain ⟨rfl, rfl⟩ := hm
    cases high with
    | none =>
      cases hi with
      | some _ => simp [OR] at h2
      | none =>
      simp only [Option.some.injEq] at hh
      subst hh
      cases low with
      | none =>
        cases lo with
        | some _ => simp [OR] at h1
        | none =>
        simp only [Option.some.injEq] at hl0
        subst hl0
        exact ⟨rc, by simp [Instr.sliceBounds], by omega, hl, hc, by omega, .inr rfl⟩
      | some lv =>
        cases lo with
        | none => simp [OR] at h1
        | some lx =>
        obtain ⟨r1, r2⟩ := uf0 (P := P) (w := w) (code := .sliceB) h1 hl0 (Nat.le_refl _)
        exact ⟨rc, by simp [Instr.sliceBounds, r1], r2, hl, hc, by omega, .inr rfl⟩
    | some hv =>
      cases hi with
      | none => simp [OR] at h2
      | some hx =>
      simp only at hh
      obtain ⟨q1, q2⟩ := uf0 (P := P) (w := w) (code := if b then .sliceAcap else .sliceAlen) h2 hh ht
      cases low with
      | none =>
        cases lo with
        | some _ => simp [OR] at h1
        | none =>
        simp only [Option.some.injEq] at hl0
        subst hl0
        exact ⟨rc, by simp [Instr.sliceBounds, q1], by omega, by omega, hc, by omega, .inl q2⟩
      | some lv =>
        cases lo with
        | none => simp [OR] at h1
        | some lx =>
        obtain ⟨r1, r2⟩ := uf0 (P := P) (w := w) (code := .sliceB) h1 hl0 (Nat.le_refl _)
        exact ⟨rc, by simp [Instr.sliceBounds, q1, r1], r2, by omega, hc, by omega, .inl q2⟩
  | some mv =>
    cases mx with
    | none => simp [OR] at h3
    | some mxv =>
    simp only at hm
    split at hm <;> simp only [Option.some.injEq, reduceCtorEq, Prod.mk.injEq] at hm
    next m0 hm0 =>
    obtain ⟨rfl, rfl⟩ := hm
    obtain ⟨p1, p2⟩ := uf0 (P := P) (w := w) (code := if b then .slice3Acap else .slice3Alen) h3 hm0 ht
    cases high with
    | none =>
      cases hi with
      | some _ => simp [OR] at h2
      | none => simp at hh
    | some hv =>
      cases hi with
      | none => simp [OR] at h2
      | some hx =>
      simp only at hh
      obtain ⟨q1, q2⟩ := uf0 (P := P) (w := w) (code := .slice3B) h2 hh (Nat.le_refl _)
      cases low with
      | none =>
        cases lo with
        | some _ => simp [OR] at h1
        | none =>
        simp only [Option.some.injEq] at hl0
        subst hl0
        exact ⟨m0, by simp [Instr.sliceBounds, p1, q1], by omega, by omega, fun c' hc' => by simpa using hc', by omega, .inl (by omega)⟩
      | some lv =>
        cases lo with
        | none => simp [OR] at h1
        | some lx =>
        obtain ⟨r1, r2⟩ := uf0 (P := P) (w := w) (code := .slice3C) h1 hl0 (Nat.le_refl _)
        exact ⟨m0, by simp [Instr.sliceBounds, p1, q1, r1], r2, by omega, fun c' hc' => by simpa using hc', by omega, .inl (by omega)⟩

theorem part_le {l m rc sz off B : Nat} (h1 : l ≤ m) (h2 : m ≤ rc) (h : off + rc * sz ≤ B) : off + l * sz + (m - l) * sz ≤ B := by
  have : l * sz + (m - l) * sz = m * sz := by rw [← Nat.add_mul]; congr 1; omega
  have := Nat.mul_le_mul_right sz h2
  omega

theorem ro_empty {sz : Nat} {a : Option Addr} {cap' : Nat} {cap : Option Nat} (h : ∀ c, cap = some c → cap' = c) : VR E (.ro sz [] cap) (.slice a 0 cap') :=
  .ro sz [] cap a cap' 0 0 (fun _ _ => undef) (Nat.zero_le _) h (fun h => absurd rfl h) (fun c hc => by simp at hc) (fun i j c x hx => by simp at hx) (fun i j c x hx => by simp at hx)

theorem cslice_sound {H : ua8} (hH : HR E H) {t : TypeId} {x z : CV} {lo hi mx : Option CV} {v : Value} {low high max : Option Value} (hx : VR E x v)
    (h1 : OR E lo low) (h2 : OR E hi high) (h3 : OR E mx max) (h : cslice P t x lo hi mx H = some z) :
    ∃ r, (Instr.sliceAt t v low high max).run P E.w = .ok r E.w ∧ VR E z r := by
  unfold cslice at h
  split at h
  · next s hu =>
    cases mx with
    | some _ => simp at h
    | none =>
    cases max with
    | some _ => simp [OR] at h3
    | none =>
    simp only at h
    split at h <;> simp only [Option.some.injEq, reduceCtorEq] at h
    next l hh c hb =>
    subst h
    cases hx
    have hsz : ByteArray.size ⟨⟨s⟩⟩ = s.length := by simp [ByteArray.size]
    obtain ⟨m, r1, r2, r3, r4, r5, r6⟩ := uh3 (P := P) (w := E.w) (b := false) (rc := s.length) (mx := none) (max := none) h1 h2 trivial (Nat.le_refl _) (Nat.le_refl _) (fun c hc => Option.some.inj hc) hb
    refine ⟨.string ⟨⟨(s.drop l).take (hh - l)⟩⟩, ?_, .str _⟩
    have hex : (⟨⟨s⟩⟩ : ByteArray).extract l hh = ⟨⟨(s.drop l).take (hh - l)⟩⟩ := by
      apply ByteArray.ext
      simp [ByteArray.data_extract]
    simp [Instr.sliceAt, Instr.slice, run_underlying hu, hsz, r1, hex]
  · next e sz b off len cap hu =>
    split at h <;> try (simp at h; done)
    next s hs =>
    split at h <;> try (simp at h; done)
    next hsz =>
    obtain rfl := Nat.eq_of_beq_eq_true hsz
    split at h <;> try (simp at h; done)
    next l hh c hb =>
    cases hx with
    | slice _ _ _ _ _ ad cap' g1 g2 g3 g4 =>
    have htop : cap.getD len ≤ cap' := by cases cap with
      | none => simpa using g3
      | some c0 => have := g4 c0 rfl; simp; omega
    obtain ⟨m, r1, r2, r3, r4, r5, r6⟩ := uh3 (P := P) (w := E.w) (b := true) (rc := cap') h1 h2 h3 htop g3 g4 hb
    refine ⟨.slice (some (if m = l then ad else ad.add (l * s))) (hh - l) (m - l), ?_, ?_⟩
    · simp only [Instr.sliceAt, Instr.slice, Sem.run_bind, run_underlying hu, Result.andThen_ok, r1, run_sizeOf' _ hs, Sem.run_pure, Option.map_some]
      split <;> rfl
    · split at h
      · next c' =>
        have hm := r4 c' rfl
        subst hm
        split at h <;> simp only [Option.some.injEq, reduceCtorEq] at h
        · next h0 =>
          have h0' := Nat.eq_of_beq_eq_true h0
          subst h
          rw [show hh - l = 0 by omega]
          exact ro_empty (fun c hc => by simp at hc; omega)
        · next h0 =>
          have h0' : m - l ≠ 0 := fun e => h0 (by rw [e]; rfl)
          subst h
          rw [if_neg (by omega)]
          exact .slice _ _ _ _ _ _ _ g1 (fun r hr => by rw [(g2 r hr).1, ud9]; exact ⟨rfl, part_le (by omega) r5 (g2 r hr).2⟩) (by omega) (fun c hc => by simpa using hc)
      · split at h <;> simp only [Option.some.injEq, reduceCtorEq] at h
        · next h0 =>
          have h0' := Nat.eq_of_beq_eq_true h0
          subst h
          rw [h0']
          exact ro_empty (fun c hc => by simp at hc)
        · next h0 =>
          have h0' : hh - l ≠ 0 := fun e => h0 (by rw [e]; rfl)
          subst h
          rw [if_neg (by omega)]
          exact .slice _ _ _ _ _ _ _ g1 (fun r hr => by rw [(g2 r hr).1, ud9]; exact ⟨rfl, part_le (by omega) r5 (g2 r hr).2⟩) (by omega) (fun c hc => by simp at hc)
  · next e sz xs cap hu =>
    split at h <;> try (simp at h; done)
    next s hs =>
    split at h <;> try (simp at h; done)
    next hsz =>
    split at h <;> simp only [Option.some.injEq, reduceCtorEq] at h
    next l hh c hb =>
    cases hx with
    | ro _ _ _ a cap' r o vs g1 g2 g3 g4 g5 g6 =>
    obtain ⟨m, r1, r2, r3, r4, r5, r6⟩ := uh3 (P := P) (w := E.w) (b := true) (rc := cap') h1 h2 h3 g1 g1 g2 hb
    have hhl : hh ≤ xs.length := by omega
    refine ⟨.slice (if m = l then a else a.map (·.add (l * s))) (hh - l) (m - l), ?_, ?_⟩
    · simp only [Instr.sliceAt, Instr.slice, Sem.run_bind, run_underlying hu, Result.andThen_ok, r1, run_sizeOf' _ hs, Sem.run_pure]
    · have hlen : ((xs.drop l).take (hh - l)).length = hh - l := by simp; omega
      subst h
      have hcap : ∀ c', capSub c l = some c' → m - l = c' := by
        intro c' hc'
        unfold capSub at hc'
        cases c with
        | none => simp at hc'
        | some c0 => have := r4 c0 rfl; simp at hc'; omega
      by_cases he : xs = []
      · subst he
        have : hh = 0 := by simpa using hhl
        subst this
        simp only [List.drop_nil, List.take_nil, Nat.zero_sub]
        exact ro_empty hcap
      · have hss : s = sz := by
          simp only [Bool.or_eq_true] at hsz
          rcases hsz with h' | h'
          · exact Nat.eq_of_beq_eq_true h'
          · simp at h'; exact absurd h' he
        subst hss
        obtain ⟨ha, hI⟩ := g3 he
        have hidx : ∀ (i j : Nat) (c : List CV) (x : CV), ((xs.drop l).take (hh - l))[i]? = some c → c[j]? = some x → xs[l + i]? = some c := by
          intro i j c x hi _
          rw [List.getElem?_take] at hi
          split at hi
          · rwa [List.getElem?_drop] at hi
          · simp at hi
        have key := VR.ro (E := E) s ((xs.drop l).take (hh - l)) (capSub c l) (if m = l then a else a.map (·.add (l * s))) (m - l) r (o + l * s) (fun i j => vs (l + i) j)
          (by rw [hlen]; omega) hcap (fun hne => ?_) (fun c hc => g4 c (List.mem_of_mem_drop (List.mem_of_mem_take hc)))
          (fun i j c x hi hj => by
            have := g5 (l + i) j c x (hidx i j c x hi hj) hj
            rwa [show o + l * s + i * s + j = o + (l + i) * s + j by rw [Nat.add_mul]; omega])
          (fun i j c x hi hj => g6 (l + i) j c x (hidx i j c x hi hj) hj)
        · rwa [hlen] at key
        · have : m ≠ l := by
            intro e
            apply hne
            have : hh - l = 0 := by omega
            rw [this]; simp
          rw [if_neg this, ha]
          simp [ud9, hI]
  · next n e b off hu =>
    split at h <;> try (simp at h; done)
    next s blk hs hg =>
    split at h <;> try (simp at h; done)
    next hle =>
    split at h <;> try (simp at h; done)
    next l hh c hb =>
    cases hx with
    | ptr _ _ ad g1 g2 =>
    obtain ⟨m, r1, r2, r3, r4, r5, r6⟩ := uh3 (P := P) (w := E.w) (b := false) (rc := n) h1 h2 h3 (Nat.le_refl _) (Nat.le_refl _) (fun c hc => Option.some.inj hc) hb
    have hm := r4 c rfl
    subst hm
    obtain ⟨r, hr, cc, el, lo', hi', hcc, hf, hsz, _⟩ := hH.get b blk hg
    have hB : bsz E.w r = cc.size := by simp [bsz, hcc]
    have hle' := Nat.le_of_ble_eq_true hle
    refine ⟨.slice (some (if m = l then ad else ad.add (l * s))) (hh - l) (m - l), ?_, ?_⟩
    · simp only [Instr.sliceAt, Instr.sureAddr, Sem.run_bind, run_underlying hu, Result.andThen_ok, r1, run_sizeOf' _ hs, Sem.run_pure]
    · split at h <;> simp only [Option.some.injEq, reduceCtorEq] at h
      · next h0 =>
        have h0' := Nat.eq_of_beq_eq_true h0
        subst h
        rw [show hh - l = 0 by omega]
        exact ro_empty (fun c hc => by simp at hc; omega)
      · next h0 =>
        have h0' : m - l ≠ 0 := fun e => h0 (by rw [e]; rfl)
        subst h
        rw [if_neg (by omega)]
        refine .slice _ _ _ _ _ _ _ g1 (fun r' hr' => ?_) (by omega) (fun c hc => by simpa using hc)
        obtain rfl : r' = r := by rw [hr] at hr'; exact (Option.some.inj hr').symm
        rw [g2 r' hr, ud9]
        exact ⟨rfl, part_le (by omega) r5 (by omega)⟩
  · simp at h

end
end Go.Cn
end
noncomputable section
namespace Go.Cn

section
variable {P : Program}

/-! ### writing into a block, whatever of it is named -/
theorem run_storeRaw {r o : Nat} {elem : TypeId} {lo hi : Nat} (vs : List Value) : ∀ {w : World} {i : Nat} {c : Array Value}, w.heap[r]? = some (.cells c elem (lo, hi)) → (hi ≤ lo ∨ c.size ≤ lo) → o + i + vs.length ≤ c.size →
    vs.all Value.oneCell' = true → ∃ w' c', (storeCells ⟨r, o, none⟩ vs i).run P w = .ok () w' ∧ w'.heap.size = w.heap.size ∧ (∀ r', r' ≠ r → w'.heap[r']? = w.heap[r']?) ∧
      w'.heap[r]? = some (.cells c' elem (lo, hi)) ∧ c'.size = c.size ∧ (∀ j, j < o + i ∨ o + i + vs.length ≤ j → c'[j]? = c[j]?) ∧ (∀ j, j < vs.length → c'[o + i + j]? = vs[j]?) ∧ up6 w w' := by
  induction vs with
  | nil => intro w i c hc _ _ _; exact ⟨w, c, by simp [storeCells], rfl, fun _ _ => rfl, hc, rfl, fun _ _ => rfl, fun j hj => by simp at hj, .refl _⟩
  | cons v vs ih =>
    intro w i c hc hf hle hone
    simp only [List.length_cons] at hle
    simp only [List.all_cons, Bool.and_eq_true] at hone
    have hlt : o + i < c.size := by omega
    have hcell : w.cell? ⟨r, o + i, none⟩ = some c[o + i] := by simp [World.cell?, hc, hlt]
    have hfz : w.frozen? ⟨r, o + i, none⟩ = false := by simp only [World.frozen?, hc]; simp; omega
    obtain ⟨w', c', h1, h2, h3, h4, h5, h6, h7, h8⟩ := ih (w := w.setCell ⟨r, o + i, none⟩ v) (i := i + 1) (c := c.setIfInBounds (o + i) v) (uk9 hc) (by simpa using hf) (by simp; omega) hone.2
    refine ⟨w', c', ?_, by rw [h2, set_size], fun r' hr' => by rw [h3 r' hr', set_heap hr'], h4, by simpa using h5, fun j hj => ?_, fun j hj => ?_, h8⟩
    · simp only [storeCells, Sem.run_bind, ud9, run_store P w _ v _ hone.1, hcell, hfz]
      simp only [Bool.false_eq_true, if_false, Result.andThen_ok]
      exact h1
    · simp only [List.length_cons] at hj
      rw [h6 j (by omega), Array.getElem?_setIfInBounds_ne (by omega)]
    · cases j with
      | zero => rw [Nat.add_zero, h6 (o + i) (by omega), Array.getElem?_setIfInBounds_self_of_lt hlt]; rfl
      | succ j =>
        simp only [List.length_cons] at hj
        have := h7 j (by omega)
        rw [show o + i + (j + 1) = o + (i + 1) + j by omega, this]; rfl

/-- a block of the world has new cells; it gets a new number -/
def Env.renew (E : Env) (k b r : Nat) (w' : World) : Env :=
  { ρ := fun x => if x = k then some r else E.ρ x, L := fun x => x = k ∨ (E.L x ∧ x ≠ b), I := E.I, w := w' }

theorem renew_ex {E : Env} {H : ua8} {k b r : Nat} {w' : World} (h : HR E H) (hk : ¬ E.U k) (hlb : E.L b) (hb : E.ρ b = some r) (hs : w'.heap.size = E.w.heap.size) (ho : ∀ r', r' ≠ r → w'.heap[r']? = E.w.heap[r']?)
    (hz : bsz E.w r ≤ bsz w' r) (hio : up6 E.w w') : Ex E (E.renew k b r w') where
  io := hio
  fwd x y hy := by
    have : x ≠ k := fun e => hk (uj8.2 ⟨y, e ▸ hy⟩)
    simpa [Env.renew, this] using hy
  L x hx hl := by
    rcases hl with rfl | hl
    · exact absurd hx hk
    · exact hl.1
  I y hy := ⟨hy, ho y (fun e => (h.lt b r hlb hb).1 (e ▸ hy))⟩
  sz y := by
    by_cases e : y = r
    · subst e; exact hz
    · show bsz E.w y ≤ bsz w' y
      unfold bsz
      rw [ho y e]
      exact Nat.le_refl _
  grow := by simp [Env.renew, hs]
  out y hy hn := by
    have hne : y ≠ r := fun e => hn b hlb (e ▸ hb)
    refine ⟨ho y hne, fun x hl hx => ?_⟩
    simp only [Env.renew] at hx hl
    split at hx
    · simp at hx; exact hne hx.symm
    · next e => exact hn x (hl.resolve_left e).1 hx
  newI y hy := .inl hy

theorem renew_hr {E : Env} {H : ua8} {k b r : Nat} {w' : World} {blk : List CV} {c' : Array Value} {elem lo hi : Nat} (h : HR E H) (hk : ¬ E.U k) (hlb : E.L b) (hb : E.ρ b = some r) (hs : w'.heap.size = E.w.heap.size) (hio : up6 E.w w')
    (ho : ∀ r', r' ≠ r → w'.heap[r']? = E.w.heap[r']?) (hc : w'.heap[r]? = some (.cells c' elem (lo, hi))) (hf : hi ≤ lo ∨ c'.size ≤ lo) (hl : blk.length ≤ c'.size) (hz : bsz E.w r ≤ c'.size)
    (hv : ∀ (j : Nat) x v, blk[j]? = some x → c'[j]? = some v → VR E x v) : HR (E.renew k b r w') ((k, blk) :: hdel H b) where
  get x bl hx := by
    have hex := renew_ex (w' := w') h hk hlb hb hs ho (by simp [bsz, hc] at hz ⊢; exact hz) hio
    rw [ub2, ug1] at hx
    by_cases e : x = k
    · subst e
      simp at hx
      subst hx
      exact ⟨r, by simp [Env.renew], c', elem, lo, hi, hc, hf, hl, fun j x v h1 h2 => (hv j x v h1 h2).mono hex⟩
    · have : ¬ k = x := fun h => e h.symm
      rw [if_neg this] at hx
      split at hx
      · simp at hx
      · next hne =>
        obtain ⟨r', hr', cc, el, lo', hi', hcc, hff, hss, hxx⟩ := h.get x bl hx
        have hne' : r' ≠ r := fun e' => hne (h.inj b x r hlb (h.live x bl hx) hb (by rw [hr', e']))
        refine ⟨r', ?_, cc, el, lo', hi', (ho r' hne').trans hcc, hff, hss, fun j x v h1 h2 => (hxx j x v h1 h2).mono hex⟩
        simp only [Env.renew]
        rw [if_neg e]
        exact hr'
  live x bl hx := by
    rw [ub2, ug1] at hx
    by_cases e : x = k
    · exact .inl e
    · rw [if_neg (fun h => e h.symm)] at hx
      split at hx
      · simp at hx
      · next hne => exact .inr ⟨h.live x bl hx, fun e' => hne e'.symm⟩
  inj x x' y l l' hx hx' := by
    simp only [Env.renew] at hx hx' l l'
    split at hx
    · next e =>
      have hx := Option.some.inj hx
      split at hx'
      · next e' => rw [e, e']
      · next e' =>
        obtain ⟨m1, m2⟩ := l'.resolve_left e'
        exact absurd (h.inj b x' r hlb m1 hb (by rw [hx', hx])) (fun e => m2 e.symm)
    · next e =>
      obtain ⟨m1, m2⟩ := l.resolve_left e
      split at hx'
      · have hx' := Option.some.inj hx'
        exact absurd (h.inj b x r hlb m1 hb (by rw [hx, hx'])) (fun e => m2 e.symm)
      · next e' => exact h.inj x x' y m1 (l'.resolve_left e').1 hx hx'
  lt x y l hx := by
    simp only [Env.renew] at hx l ⊢
    split at hx
    · next e =>
      simp at hx; subst hx
      obtain ⟨h2, h3⟩ := h.lt b r hlb hb
      exact ⟨h2, by omega⟩
    · next e =>
      obtain ⟨h2, h3⟩ := h.lt x y (l.resolve_left e).1 hx
      exact ⟨h2, by omega⟩
  Ilt y hy := by simp only [Env.renew]; rw [hs]; exact h.Ilt y hy

theorem renew_ub {E : Env} {k b r : Nat} {w' : World} : UB E (E.renew k b r w') k (k + 1) := fun x hx => by
  by_cases e : x = k
  · exact .inr ⟨by omega, by omega⟩
  · refine .inl ?_
    simpa [Env.U, Env.renew, e] using hx

/-- one answer more is drawn -/
def Env.draw (E : Env) : Env := { E with w := { E.w with drawn := E.w.drawn + 1 } }

theorem uf5 (E : Env) : Ex E E.draw :=
  ⟨fun _ _ h => h, fun _ _ h => h, fun _ h => ⟨h, rfl⟩, fun _ => Nat.le_refl _, Nat.le_refl _, fun _ _ h => ⟨rfl, h⟩, fun _ h => .inl h, ⟨rfl, rfl, rfl⟩⟩

theorem uh0 {E : Env} {H : ua8} (h : HR E H) : HR E.draw H where
  get b blk hb := by
    obtain ⟨r, hr, c, el, lo, hi, hc, hf, hs, hx⟩ := h.get b blk hb
    exact ⟨r, hr, c, el, lo, hi, hc, hf, hs, fun j x v h1 h2 => (hx j x v h1 h2).mono (uf5 E)⟩
  live := h.live
  inj := h.inj
  lt := h.lt
  Ilt := h.Ilt

/-- a block is given up -/
def Env.kill (E : Env) (b : Nat) : Env := { E with L := fun x => E.L x ∧ x ≠ b }

theorem kill_ex (E : Env) (b : Nat) : Ex E (E.kill b) where
  fwd _ _ h := h
  L _ _ h := h.1
  I r hr := ⟨hr, rfl⟩
  sz r := Nat.le_refl _
  grow := Nat.le_refl _
  out r hr hn := ⟨rfl, fun x hl hx => hn x hl.1 hx⟩
  newI r hr := .inl hr
  io := ⟨rfl, rfl, rfl⟩

theorem kill_hr {E : Env} {H : ua8} (h : HR E H) (b : Nat) : HR (E.kill b) (hdel H b) where
  get x blk hx := by
    rw [ug1] at hx
    split at hx <;> try (simp at hx; done)
    next e =>
    obtain ⟨r, hr, c, el, lo, hi, hc, hf, hs, hxx⟩ := h.get x blk hx
    exact ⟨r, hr, c, el, lo, hi, hc, hf, hs, fun j x v h1 h2 => (hxx j x v h1 h2).mono (kill_ex E b)⟩
  live x blk hx := by
    rw [ug1] at hx
    split at hx <;> try (simp at hx; done)
    next e => exact ⟨h.live x blk hx, fun e' => e e'.symm⟩
  inj x x' y l l' hx hx' := h.inj x x' y l.1 l'.1 hx hx'
  lt x y l hx := h.lt x y l.1 hx
  Ilt := h.Ilt

/-! ### the elements of a slice or a string -/
theorem lies_append {E : Env} {xs ys : List CV} {r o : Nat} (h1 : Lies E xs r o) (h2 : Lies E ys r (o + xs.length)) : Lies E (xs ++ ys) r o := by
  obtain ⟨vs, a1, a2⟩ := h1
  obtain ⟨us, b1, b2⟩ := h2
  refine ⟨fun j => if j < xs.length then vs j else us (j - xs.length), fun j x hj => ?_, fun j x hj => ?_⟩ <;>
  · rw [List.getElem?_append] at hj
    split at hj
    · next hlt => simp only [hlt, if_true]; first | exact a1 j x hj | exact a2 j x hj
    · next hlt =>
      simp only [hlt, if_false]
      first
      | exact b2 _ x hj
      | (have := b1 _ x hj; rwa [show o + xs.length + (j - xs.length) = o + j by omega] at this)

theorem lies_nil {E : Env} {r o : Nat} : Lies E [] r o := ⟨fun _ => undef, fun j x h => by simp at h, fun j x h => by simp at h⟩

theorem lies_flatten {E : Env} {sz r : Nat} : ∀ (xs : List (List CV)) (o : Nat) (vs : Nat → Nat → Value), (∀ c ∈ xs, c.length = sz) →
    (∀ (i j : Nat) c x, xs[i]? = some c → c[j]? = some x → E.w.cell? ⟨r, o + i * sz + j, none⟩ = some (vs i j)) → (∀ (i j : Nat) c x, xs[i]? = some c → c[j]? = some x → VR E x (vs i j)) → Lies E xs.flatten r o := by
  intro xs
  induction xs with
  | nil => intro o vs _ _ _; exact lies_nil
  | cons c xs ih =>
    intro o vs h1 h2 h3
    have hc : c.length = sz := h1 c (by simp)
    refine lies_append ⟨fun j => vs 0 j, fun j x hj => ?_, fun j x hj => h3 0 j c x rfl hj⟩ ?_
    · have := h2 0 j c x rfl hj
      simpa using this
    · refine ih (o + c.length) (fun i j => vs (i + 1) j) (fun c hc => h1 c (by simp [hc])) (fun i j c' x hi hj => ?_) (fun i j c' x hi hj => h3 (i + 1) j c' x (by simpa using hi) hj)
      have := h2 (i + 1) j c' x (by simpa using hi) hj
      rwa [hc, show o + sz + i * sz + j = o + (i + 1) * sz + j by rw [Nat.add_mul]; omega]

theorem flatten_len {sz : Nat} : ∀ (xs : List (List CV)), (∀ c ∈ xs, c.length = sz) → xs.flatten.length = xs.length * sz := by
  intro xs
  induction xs with
  | nil => intro _; simp
  | cons c xs ih =>
    intro h
    rw [List.flatten_cons, List.length_append, ih (fun c hc => h c (by simp [hc])), h c (by simp), List.length_cons, Nat.add_mul]
    omega

/-- what 'append' and 'copy' read of their last argument -/
theorem ud4 {E : Env} {H : ua8} (hH : HR E H) {y : CV} {u : Value} {ysz k : Nat} {cells : List CV} (hy : VR E y u) (h : celems H y = some (ysz, k, cells)) :
    (Builtin.lenOf u).run P E.w = .ok k E.w ∧ cells.length = k * ysz ∧ ∀ sz m, m ≤ k → (sz = ysz ∨ k = 0) → ∃ vs : Array Value, (Builtin.firstCells sz m u).run P E.w = .ok vs E.w ∧ vs.size = m * sz ∧
      ∀ (j : Nat) x v, (cells.take (m * sz))[j]? = some x → vs[j]? = some v → VR E x v := by
  unfold celems at h
  split at h
  · next sz0 b off len cap =>
    split at h <;> try (simp at h; done)
    next blk hg =>
    split at h <;> simp only [Option.some.injEq, reduceCtorEq, Prod.mk.injEq] at h
    next hle =>
    obtain ⟨rfl, rfl, rfl⟩ := h
    have hle' := Nat.le_of_ble_eq_true hle
    obtain ⟨r, hr, hbr⟩ := hH.get b blk hg
    cases hy with
    | slice _ _ _ _ _ ad cap' g1 g2 g3 g4 =>
    obtain ⟨rfl, _⟩ := g2 r hr
    refine ⟨by simp [Builtin.lenOf], by simp; omega, fun sz m hm hsz => ?_⟩
    rcases hsz with rfl | h0
    · have hms : m * sz ≤ len * sz := Nat.mul_le_mul_right sz hm
      obtain ⟨vs, h1, h2, h3⟩ := run_lies (P := P) (lies_take (m * sz) (lies_drop off (lies_of_br hbr)))
      have hlen : ((blk.drop off).take (m * sz)).length = m * sz := by simp; omega
      rw [hlen] at h1 h2
      rw [Nat.zero_add] at h1
      refine ⟨vs, by simp [Builtin.firstCells, h1], h2, fun j x v hx hv => h3 j x v ?_ hv⟩
      rwa [List.take_take, Nat.min_eq_left hms] at hx
    · subst h0
      obtain rfl : m = 0 := by omega
      exact ⟨#[], by simp [Builtin.firstCells, loadCells, loadCellsFrom], by simp, fun j x v hx hv => by simp at hx⟩
  · next sz0 xs cap =>
    simp only [Option.some.injEq, Prod.mk.injEq] at h
    obtain ⟨rfl, rfl, rfl⟩ := h
    cases hy with
    | ro _ _ _ a cap' r o vs g1 g2 g3 g4 g5 g6 =>
    refine ⟨by simp [Builtin.lenOf], flatten_len xs g4, fun sz m hm hsz => ?_⟩
    by_cases he : xs = []
    · subst he
      obtain rfl : m = 0 := by simpa using hm
      cases a <;> exact ⟨#[], by simp [Builtin.firstCells, loadCells, loadCellsFrom], by simp, fun j x v hx hv => by simp at hx⟩
    · obtain ⟨rfl, hI⟩ := g3 he
      have hsz' : sz = sz0 := by
        rcases hsz with h | h
        · exact h
        · exact absurd (List.length_eq_zero_iff.1 h) he
      subst hsz'
      have hms : m * sz ≤ xs.length * sz := Nat.mul_le_mul_right sz hm
      obtain ⟨ws, h1, h2, h3⟩ := run_lies (P := P) (lies_take (m * sz) (lies_flatten xs o vs g4 g5 g6))
      have hlen : (xs.flatten.take (m * sz)).length = m * sz := by rw [List.length_take, flatten_len xs g4]; omega
      rw [hlen] at h1 h2
      exact ⟨ws, by simp [Builtin.firstCells, h1], h2, h3⟩
  · next s =>
    simp only [Option.some.injEq, Prod.mk.injEq] at h
    obtain ⟨rfl, rfl, rfl⟩ := h
    cases hy
    have hsz : ByteArray.size ⟨⟨s⟩⟩ = s.length := by simp [ByteArray.size]
    refine ⟨by simp [Builtin.lenOf, hsz], by simp, fun sz m hm hsz' => ?_⟩
    have hex : ((⟨⟨s⟩⟩ : ByteArray).extract 0 m).data = ⟨s.take m⟩ := by
      rw [ByteArray.data_extract]
      simp
    refine ⟨⟨(s.take m).map fun b => .int .u8 b.toNat⟩, by simp [Builtin.firstCells, hex], ?_, fun j x v hx hv => ?_⟩
    · rcases hsz' with rfl | h0
      · simp; omega
      · obtain rfl : m = 0 := by omega
        simp
    · rw [List.getElem?_take] at hx
      split at hx <;> try (simp at hx; done)
      simp only [List.getElem?_toArray, List.getElem?_map, List.getElem?_take] at hx hv
      split at hv <;> try (simp at hv; done)
      cases hj : s[j]? with
      | none => simp [hj] at hx
      | some b => simp [hj] at hx hv; subst hx; subst hv; exact .int _ _
  · simp at h

end
end Go.Cn
end
noncomputable section
namespace Go.Cn

section
variable {P : Program}

theorem growBy_le (N : Nat) : ∀ (rounds c : Nat), c ≤ 2 * N + 192 → Builtin.growBy N rounds c ≤ 2 * N + 192 := by
  intro rounds
  induction rounds with
  | zero => intro c h; exact h
  | succ n ih =>
    intro c h
    simp only [Builtin.growBy]
    split
    · exact h
    · exact ih _ (by omega)

theorem next_le {N old : Nat} (h : old < N) : Builtin.nextslicecap N old ≤ 2 * N + 192 := by
  unfold Builtin.nextslicecap
  split
  · omega
  · split
    · omega
    · exact growBy_le N 4 old (by omega)

theorem next_bytes {N old by' : Nat} (h : old < N) (h1 : N * by' ≤ growBytes) (h2 : by' < 4294967296) : ¬ (Builtin.nextslicecap N old * by' > 2 ^ 48) := by
  have a := Nat.mul_le_mul_right by' (next_le h)
  have b : (2 * N + 192) * by' = 2 * (N * by') + 192 * by' := by rw [Nat.add_mul, Nat.mul_assoc]
  unfold growBytes at h1
  omega

theorem run_zeroValue' {t : TypeId} {z : List CV} (h : czero P t = some z) : ∃ v, (∀ w, (zeroValue t).run P w = .ok v w) ∧ v.cells.size = z.length ∧ ∀ (E : Env) (j : Nat) x u, z[j]? = some x → v.cells[j]? = some u → VR E x u := by
  unfold czero at h
  split at h
  · next i hi =>
    split at h
    · next v hv =>
      refine ⟨v, fun w => by simp [zeroValue, run_typeInfo' w hi, hv], ?_, fun E j x u hx hu => ?_⟩
      · have := (ue6 (E := ⟨fun _ => none, fun _ => False, fun _ => False, default⟩) h).1
        simpa using this
      · exact (ue6 (E := E) h).2 j x u hx (by simpa using hu)
    · simp at h
  · simp at h

theorem run_bytes {t : TypeId} {b : Nat} (h : tbytes P t = some b) : ∃ i, (∀ w, (typeInfo t).run P w = .ok i w) ∧ i.bytes = b := by
  unfold tbytes at h
  split at h <;> simp only [Option.some.injEq, reduceCtorEq] at h
  next i hi => exact ⟨i, fun w => run_typeInfo' w hi, h⟩

theorem noZeros_cases {t : Option TypeId} (h : noZeros P t = true) : t = none ∨ ∃ xT d, t = some xT ∧ P.underlying xT = some d ∧ ∀ k, d ≠ .int k := by
  cases t with
  | none => exact .inl rfl
  | some xT =>
    simp only [noZeros] at h
    split at h <;> try (simp at h; done)
    next d hd hu => exact .inr ⟨xT, d, rfl, hu, fun k e => hd k e⟩

theorem uh9 {E : Env} {argTypes : Array TypeId} {ty sT e sz : Nat} {u : Value} {base : Option Addr} {sLen sCap k : Nat} {nvs : Array Value} {w' : World} (h0 : argTypes[0]? = some sT)
    (h1 : P.underlying sT = some (.slice e)) (h2 : tsize P e = some sz) (h3 : noZeros P argTypes[1]? = true) (hl : (Builtin.lenOf u).run P E.w = .ok k E.w)
    (hn : sLen + k ≤ sCap) (hf : (Builtin.firstCells sz k u).run P E.w = .ok nvs E.w) (hst : ∀ a, base = some a → (storeCells (a.add (sLen * sz)) nvs.toList).run P E.w = .ok () w') (hst0 : base = none → w' = E.w) :
    (Builtin.append_ argTypes ty #[.slice base sLen sCap, u]).run P E.w = .ok (.slice base (sLen + k) sCap) w' := by
  unfold Builtin.append_
  rcases noZeros_cases h3 with h3' | ⟨xT, d, h3', hu, hd⟩
  · simp only [h0, h3', List.getElem?_toArray, List.getElem?_cons_zero, List.getElem?_cons_succ]
    simp only [Sem.run_bind, run_underlying h1, Result.andThen_ok, run_sizeOf' _ h2, Sem.run_pure, Bool.false_eq_true, if_false, hl, if_pos hn, Bool.not_false, if_true, hf]
    cases base with
    | none => simp [hst0 rfl]
    | some a => simp [hst a rfl]
  · simp only [h0, h3', List.getElem?_toArray, List.getElem?_cons_zero, List.getElem?_cons_succ]
    simp only [Sem.run_bind, run_underlying h1, Result.andThen_ok, run_sizeOf' _ h2, run_underlying hu]
    cases d with
    | int k => exact absurd rfl (hd k)
    | _ =>
      simp only [Sem.run_bind, Result.andThen_ok, Sem.run_pure, Bool.false_eq_true, if_false, hl, if_pos hn, Bool.not_false, if_true, hf]
      cases base with
      | none => simp [hst0 rfl]
      | some a => simp [hst a rfl]

theorem ui6 {E : Env} {argTypes : Array TypeId} {ty sT e sz by' : Nat} {z : List CV} {u : Value} {base : Option Addr} {sLen sCap k : Nat} {ovs nvs : Array Value} (h0 : argTypes[0]? = some sT)
    (h1 : P.underlying sT = some (.slice e)) (h2 : tsize P e = some sz) (h3 : noZeros P argTypes[1]? = true) (hb : tbytes P e = some by') (hz0 : czero P e = some z) (hzl : z.length = sz)
    (hb1 : by' ≠ 0) (hb2 : by' < 4294967296) (hl : (Builtin.lenOf u).run P E.w = .ok k E.w)
    (hn : sCap < sLen + k) (hgb : (sLen + k) * by' ≤ growBytes) (hf : (Builtin.firstCells sz k u).run P E.draw.w = .ok nvs E.draw.w) (hfo : (Builtin.firstCells sz sLen (.slice base sLen sCap)).run P E.draw.w = .ok ovs E.draw.w) :
    ∃ newCap rest, sLen + k ≤ newCap ∧ rest.size = (newCap - (sLen + k)) * sz ∧ (Builtin.append_ argTypes ty #[.slice base sLen sCap, u]).run P E.w =
      .ok (.slice (some ⟨E.w.heap.size, 0, none⟩) (sLen + k) newCap) { E.draw.w with heap := E.draw.w.heap.push (.cells (ovs ++ nvs ++ rest) e) } := by
  obtain ⟨i, hi, hib⟩ := run_bytes hb
  obtain ⟨zv, hzv, hzs, _⟩ := run_zeroValue' hz0
  have hnb := next_bytes hn hgb hb2
  have hint : ¬ (((sLen + k : Nat) : Int) > IntKind.i64.max ∧ (False ∨ i.bytes = 0)) := by
    rw [hib]; intro h; rcases h.2 with h | h
    · exact h
    · exact hb1 h
  let nc := sLen + k + (E.w.tape E.w.drawn (.appendCap (sLen + k) sCap e)) % (2 ^ 63 - (sLen + k))
  refine ⟨nc, Builtin.zeroCells zv.cells (nc - (sLen + k)), by omega, by simp [Builtin.zeroCells, hzs, hzl], ?_⟩
  unfold Builtin.append_
  have hnle : ¬ (sLen + k ≤ sCap) := by omega
  have hf' : (Builtin.firstCells sz k u).run P ⟨E.w.heap, E.w.tape, E.w.drawn + 1, E.w.os, E.w.output⟩ = .ok nvs ⟨E.w.heap, E.w.tape, E.w.drawn + 1, E.w.os, E.w.output⟩ := hf
  have hfo' : (Builtin.firstCells sz sLen (.slice base sLen sCap)).run P ⟨E.w.heap, E.w.tape, E.w.drawn + 1, E.w.os, E.w.output⟩ = .ok ovs ⟨E.w.heap, E.w.tape, E.w.drawn + 1, E.w.os, E.w.output⟩ := hfo
  rcases noZeros_cases h3 with h3' | ⟨xT, d, h3', hu, hd⟩
  · simp only [h0, h3', List.getElem?_toArray, List.getElem?_cons_zero, List.getElem?_cons_succ]
    simp only [Sem.run_bind, run_underlying h1, Result.andThen_ok, run_sizeOf' _ h2, Sem.run_pure, Bool.false_eq_true, if_false, hl, if_neg hnle, Bool.not_false, if_true]
    simp only [Bool.false_eq_true, hi, Sem.run_bind, Result.andThen_ok, Sem.run_ite, hib, hb1, false_or, or_self, and_false, if_false, hnb, run_choose, Question.forced, Question.cut, run_askRoom]
    simp only [hf', hfo', hzv, newRow, Env.draw, nc, Sem.run_bind, Result.andThen_ok, Sem.run_pure, run_newObj]
  · simp only [h0, h3', List.getElem?_toArray, List.getElem?_cons_zero, List.getElem?_cons_succ]
    simp only [Sem.run_bind, run_underlying h1, Result.andThen_ok, run_sizeOf' _ h2, run_underlying hu]
    cases d with
    | int k => exact absurd rfl (hd k)
    | _ =>
      simp only [Sem.run_bind, Result.andThen_ok, Sem.run_pure, Bool.false_eq_true, if_false, hl, if_neg hnle, Bool.not_false, if_true]
      simp only [Bool.false_eq_true, hi, Sem.run_bind, Result.andThen_ok, Sem.run_ite, hib, hb1, false_or, or_self, and_false, if_false, hnb, run_choose, Question.forced, Question.cut, run_askRoom]
      simp only [hf', hfo', hzv, newRow, Env.draw, nc, Sem.run_bind, Result.andThen_ok, Sem.run_pure, run_newObj]

/-- the world behind a growth -/
def Env.grown (E : Env) (k : Nat) (cells : Array Value) (e : TypeId) : Env := E.draw.alloc k (.cells cells e)

theorem size_append3 {ovs nvs rest : Array Value} : (ovs ++ nvs ++ rest).size = ovs.size + nvs.size + rest.size := by simp [Nat.add_assoc]

theorem grown_sound {E : Env} {H : ua8} (hH : HR E H) {n : Nat} (hk : ¬ E.U n) {olds news : List CV} {ovs nvs rest : Array Value} {e sz len k newCap : Nat} (ho : ovs.size = olds.length)
    (hov : ∀ (j : Nat) x v, olds[j]? = some x → ovs[j]? = some v → VR E.draw x v) (hn : nvs.size = news.length) (hnv : ∀ (j : Nat) x v, news[j]? = some x → nvs[j]? = some v → VR E.draw x v)
    (hol : olds.length = len * sz) (hnl : news.length = k * sz) (hc : len + k ≤ newCap) (hr : rest.size = (newCap - (len + k)) * sz) :
    HR (E.grown n (ovs ++ nvs ++ rest) e) ((n, olds ++ news) :: H) ∧ Ex E (E.grown n (ovs ++ nvs ++ rest) e) ∧
      VR (E.grown n (ovs ++ nvs ++ rest) e) (.slice sz n 0 (len + k) none) (.slice (some ⟨E.w.heap.size, 0, none⟩) (len + k) newCap) := by
  have hd := uh0 hH
  refine ⟨alloc_hr (E := E.draw) hd hk (by simp; omega) (fun j x v hx hv => ?_), (uf5 E).trans (uj4 hd hk), ?_⟩
  · rw [List.getElem?_append] at hx
    split at hx
    · next hlt =>
      rw [Array.append_assoc, Array.getElem?_append_left (by omega)] at hv
      exact hov j x v hx hv
    · next hlt =>
      have hlt2 : j - olds.length < news.length := by
        rcases Nat.lt_or_ge (j - olds.length) news.length with h | h
        · exact h
        · rw [List.getElem?_eq_none h] at hx; simp at hx
      rw [Array.append_assoc, Array.getElem?_append_right (by omega), Array.getElem?_append_left (by omega), ho] at hv
      exact hnv _ x v hx hv
  · refine .slice _ _ _ _ _ _ _ (by simp [Env.U, Env.grown, Env.alloc, Env.draw]) (fun r hr' => ?_) hc (fun c hc => by simp at hc)
    simp [Env.grown, Env.alloc, Env.draw] at hr'
    subst hr'
    refine ⟨rfl, ?_⟩
    have : bsz (E.grown n (ovs ++ nvs ++ rest) e).w E.w.heap.size = (ovs ++ nvs ++ rest).size := by
      unfold bsz
      show (match (E.w.heap.push (.cells (ovs ++ nvs ++ rest) e))[E.w.heap.size]? with | some (.cells c _ _) => c.size | _ => 0) = _
      rw [Array.getElem?_push_size]
    rw [this, size_append3, ho, hn, hr, hol, hnl, ← Nat.add_mul, ← Nat.add_mul]
    exact Nat.le_of_eq (by rw [Nat.zero_add]; congr 1; omega)

theorem uo5 {cells : List CV} {m : Nat} (h : cells.length = m) : cells.take m = cells := by subst h; simp

theorem oneCells {E : Env} {xs : List CV} {vs : Array Value} (hs : vs.size = xs.length) (h : ∀ (j : Nat) x v, xs[j]? = some x → vs[j]? = some v → VR E x v) (hx : xs.all ui1 = true) : vs.toList.all Value.oneCell' = true := by
  rw [List.all_eq_true]
  intro v hv
  obtain ⟨j, hj, rfl⟩ := List.getElem_of_mem hv
  have hj' : j < xs.length := by simpa [hs] using hj
  rw [List.all_eq_true] at hx
  exact up4 (h j xs[j] _ (List.getElem?_eq_getElem hj') (by simp at hj; simp [Array.getElem?_eq_getElem hj])) (hx _ (List.getElem_mem hj'))

theorem put_length : ∀ (xs blk : List CV) (o : Nat), (putCells blk o xs).length = blk.length
  | [], _, _ => rfl
  | x :: xs, blk, o => by rw [putCells, put_length xs]; simp

theorem cappend_sound {E : Env} {H : ua8} (hH : HR E H) {argTypes : Array TypeId} {ty : TypeId} {s y x : CV} {v u : Value} {H' : ua8} {n n' lo : Nat} (hs : VR E s v) (hy : VR E y u)
    (h : cappend P argTypes s y H n lo = some (x, H', n')) (hfr : Fr E n n') : ∃ E' r, (Builtin.append_ argTypes ty #[v, u]).run P E.w = .ok r E'.w ∧ Ex E E' ∧ HR E' H' ∧ UB E E' n n' ∧ VR E' x r := by
  unfold cappend at h
  split at h <;> try (simp at h; done)
  next sT h0 =>
  split at h <;> try (simp at h; done)
  next e h1 =>
  split at h <;> try (simp at h; done)
  next sz by' ysz k cells z h2 hb hel hz =>
  split at h <;> try (simp at h; done)
  next hzl =>
  split at h <;> try (simp at h; done)
  next h3 =>
  have h3 : noZeros P argTypes[1]? = true := by simpa using h3
  have hzl : z.length = sz := by simpa using hzl
  obtain ⟨hl, hcl, hel'⟩ := ud4 (P := P) hH hy hel
  split at h
  · -- nothing is appended
    next hk =>
    obtain rfl : k = 0 := by simpa using hk
    obtain ⟨nvs, hf, hfs, _⟩ := hel' sz 0 (Nat.le_refl _) (.inr rfl)
    have hnil : nvs.toList = [] := by
      have : nvs.size = 0 := by simpa using hfs
      simpa using this
    have key : ∀ base sLen sCap, v = .slice base sLen sCap → sLen ≤ sCap → (Builtin.append_ argTypes ty #[v, u]).run P E.w = .ok v E.w := by
      rintro base sLen sCap rfl hle
      have := uh9 (ty := ty) (base := base) (sLen := sLen) (sCap := sCap) (w' := E.w) h0 h1 h2 h3 hl (by omega) hf (fun a _ => by rw [hnil]; simp [storeCells]) (fun _ => rfl)
      simpa using this
    split at h <;> simp only [Option.some.injEq, reduceCtorEq, Prod.mk.injEq] at h
    · obtain ⟨rfl, rfl, rfl⟩ := h
      cases hs with
      | slice _ _ _ _ _ ad cap' g1 g2 g3 g4 => exact ⟨E, _, key _ _ _ rfl g3, .refl E, hH, .refl, .slice _ _ _ _ _ ad cap' g1 g2 g3 g4⟩
    · obtain ⟨rfl, rfl, rfl⟩ := h
      cases hs with
      | ro _ _ _ a cap' r o vs g1 g2 g3 g4 g5 g6 => exact ⟨E, _, key _ _ _ rfl g1, .refl E, hH, .refl, .ro _ _ _ a cap' r o vs g1 g2 g3 g4 g5 g6⟩
  · next hk =>
    have hk : k ≠ 0 := by simpa using hk
    split at h <;> try (simp at h; done)
    next hys =>
    have hys : ysz = sz := by simpa using hys
    subst hys
    split at h <;> try (simp at h; done)
    next hbb =>
    simp only [Bool.or_eq_true, not_or, Nat.beq_eq_true_eq] at hbb
    have hb1 : by' ≠ 0 := by simpa using hbb.1
    have hb2 : by' < 4294967296 := by
      have := hbb.2
      rw [Nat.ble_eq] at this
      omega
    have htk : cells.take (k * ysz) = cells := uo5 hcl
    split at h
    · -- onto what nobody writes
      next ssz xs cap =>
      split at h <;> try (simp at h; done)
      next c =>
      split at h <;> simp only [Option.some.injEq, reduceCtorEq, Prod.mk.injEq] at h
      next hcond =>
      obtain ⟨rfl, rfl, rfl⟩ := h
      simp only [Bool.or_eq_true, not_or, Nat.ble_eq, Bool.not_eq_true', Bool.not_eq_false, Bool.or_eq_true, Nat.beq_eq_true_eq] at hcond
      obtain ⟨⟨hc1, hc2⟩, hc3⟩ := hcond
      have hsv := hs.mono (uf5 E)
      have hel0 : celems H (.ro ssz xs (some c)) = some (ssz, xs.length, xs.flatten) := rfl
      obtain ⟨hl0, hcl0, hel0'⟩ := ud4 (P := P) (uh0 hH) hsv hel0
      have hssz : ysz = ssz ∨ xs.length = 0 := by
        rcases hc2 with h | h
        · exact .inl (Nat.eq_of_beq_eq_true h).symm
        · exact .inr (by simpa using h)
      obtain ⟨ovs, hfo, hos, hov⟩ := hel0' ysz xs.length (Nat.le_refl _) hssz
      have hxl : xs.flatten.length = xs.length * ysz := by
        rcases hssz with h | h
        · rw [h]; exact hcl0
        · rw [hcl0, h]; simp
      obtain ⟨_, _, hel1⟩ := ud4 (P := P) (uh0 hH) (hy.mono (uf5 E)) hel
      obtain ⟨nvs, hf, hfs, hnv⟩ := hel1 ysz k (Nat.le_refl _) (.inl rfl)
      rw [htk] at hnv
      rw [uo5 hxl] at hov
      cases hs with
      | ro _ _ _ a cap' r o vs g1 g2 g3 g4 g5 g6 =>
      have := g2 c rfl
      subst this
      obtain ⟨newCap, rest, q1, q2, q3⟩ := ui6 (ty := ty) (base := a) (sLen := xs.length) (sCap := cap') h0 h1 h2 h3 hb hz hzl hb1 hb2 hl (by omega) hc3 hf hfo
      obtain ⟨p1, p2, p3⟩ := grown_sound hH (hfr n (Nat.le_refl _) (by omega)) (e := e) (rest := rest) (by rw [hos, hxl]) hov (by rw [hfs, hcl]) hnv hxl hcl q1 q2
      exact ⟨_, _, q3, p2, p1, uj1 (E := E.draw), p3⟩
    · next ssz b off len cap =>
      split at h <;> try (simp at h; done)
      next hcond =>
      simp only [Bool.or_eq_true, not_or, Bool.not_eq_true', Bool.not_eq_false, Nat.beq_eq_true_eq] at hcond
      obtain ⟨hssz, hgb⟩ := hcond
      have hgb := Nat.le_of_ble_eq_true hgb
      have hssz : ssz = ysz := by simpa using hssz
      subst hssz
      split at h <;> try (simp at h; done)
      next blk hg =>
      obtain ⟨r, hr, hbr⟩ := hH.get b blk hg
      have hbr' := hbr
      obtain ⟨c', el, lo, hi, hcc, hff, hss, hxx⟩ := hbr'
      cases hs with
      | slice _ _ _ _ _ ad cap' g1 g2 g3 g4 =>
      obtain ⟨rfl, hB⟩ := g2 r hr
      have hB' : bsz E.w r = c'.size := by simp [bsz, hcc]
      obtain ⟨nvs0, hf0, hfs0, hnv0⟩ := hel' ssz k (Nat.le_refl _) (.inl rfl)
      rw [htk] at hnv0
      obtain ⟨_, _, hel1⟩ := ud4 (P := P) (uh0 hH) (hy.mono (uf5 E)) hel
      obtain ⟨nvs, hf, hfs, hnv⟩ := hel1 ssz k (Nat.le_refl _) (.inl rfl)
      rw [htk] at hnv
      have hsl : VR E (.slice ssz b off len cap) (.slice (some ⟨r, off, none⟩) len cap') := .slice _ _ _ _ _ _ _ g1 g2 g3 g4
      split at h
      · next c =>
        have := g4 c rfl
        subst this
        split at h
        · -- within the capacity
          next hle =>
          have hle := Nat.le_of_ble_eq_true hle
          split at h <;> simp only [Option.some.injEq, reduceCtorEq, Prod.mk.injEq] at h
          next hcond =>
          simp only [Bool.and_eq_true] at hcond
          obtain ⟨rfl, rfl, rfl⟩ := h
          have hle2 := Nat.le_of_ble_eq_true hcond.1.2
          have hmul : (len + k) * ssz = len * ssz + k * ssz := Nat.add_mul _ _ _
          obtain ⟨E', s1, s2, s3, s4, s5, s6⟩ := ug9 (P := P) cells (i := 0) (o := off + len * ssz) hH hg hr (vs := nvs0.toList) (by omega) (by simp; omega)
            (fun j x v hx hv => hnv0 j x v hx (by simpa using hv)) hcond.2
          have hrun := uh9 (ty := ty) (base := some ⟨r, off, none⟩) (sLen := len) (sCap := cap') (w' := E'.w) h0 h1 h2 h3 hl hle hf0 (fun a ha => by cases ha; rw [ud9]; exact s1) (fun h => by simp at h)
          refine ⟨E', _, hrun, s2, s3, .of_eq s5, .slice _ _ _ _ _ _ _ (s2.U g1) (fun r' hr' => ?_) (by omega) g4⟩
          rw [s5, hr] at hr'
          cases hr'
          exact ⟨rfl, Nat.le_trans hB (s2.sz r)⟩
        · next hle =>
          have hle : cap' < len + k := by
            rw [Bool.not_eq_true] at hle
            exact Nat.lt_of_not_le fun h => by rw [Nat.ble_eq_true_of_le h] at hle; simp at hle
          split at h <;> simp only [Option.some.injEq, reduceCtorEq, Prod.mk.injEq] at h
          next hle2 =>
          obtain ⟨rfl, rfl, rfl⟩ := h
          have hel0 : celems H (.slice ssz b off len (some cap')) = some (ssz, len, (blk.drop off).take (len * ssz)) := by simp only [celems, hg, hle2, if_true]
          obtain ⟨_, hcl0, hel0'⟩ := ud4 (P := P) (uh0 hH) (hsl.mono (uf5 E)) hel0
          obtain ⟨ovs, hfo, hos, hov⟩ := hel0' ssz len (Nat.le_refl _) (.inl rfl)
          rw [uo5 hcl0] at hov
          obtain ⟨newCap, rest, q1, q2, q3⟩ := ui6 (ty := ty) (base := some ⟨r, off, none⟩) (sLen := len) (sCap := cap') h0 h1 h2 h3 hb hz hzl hb1 hb2 hl hle hgb hf hfo
          obtain ⟨p1, p2, p3⟩ := grown_sound hH (hfr n (Nat.le_refl _) (by omega)) (e := e) (rest := rest) (by rw [hos, hcl0]) hov (by rw [hfs, hcl]) hnv hcl0 hcl q1 q2
          exact ⟨_, _, q3, p2, p1, uj1 (E := E.draw), p3⟩
      · -- the capacity is not known: the elder slice is given up
        split at h <;> simp only [Option.some.injEq, reduceCtorEq, Prod.mk.injEq] at h
        next hcond =>
        simp only [Bool.and_eq_true] at hcond
        obtain ⟨rfl, rfl, rfl⟩ := h
        have hoff : off = 0 := by simpa using hcond.1.1.2
        subst hoff
        have hle2 := Nat.le_of_ble_eq_true hcond.1.2
        have htl : (blk.take (len * ssz)).length = len * ssz := by simp; omega
        by_cases hle : len + k ≤ cap'
        · have hmul : (len + k) * ssz = len * ssz + k * ssz := Nat.add_mul _ _ _
          have hcs : (len + k) * ssz ≤ cap' * ssz := Nat.mul_le_mul_right ssz hle
          have hone := oneCells (E := E) (by rw [hfs0, hcl]) hnv0 hcond.2
          have hns : nvs0.toList.length = k * ssz := by simpa using hfs0
          obtain ⟨w', c1, t1, t2, t3, t4, t5, t6, t7, t8⟩ := run_storeRaw (P := P) (r := r) (o := len * ssz) nvs0.toList (i := 0) hcc hff (by rw [hns]; omega) hone
          rw [hns] at t6 t7
          have hrun := uh9 (ty := ty) (base := some ⟨r, 0, none⟩) (sLen := len) (sCap := cap') (w' := w') h0 h1 h2 h3 hl hle hf0
            (fun a ha => by cases ha; rw [ud9, Nat.zero_add]; exact t1) (fun h => by simp at h)
          have hz2 : bsz E.w r ≤ bsz w' r := by simp [bsz, hcc, t4, t5]
          have hkn : ¬ E.U n := hfr n (Nat.le_refl _) (by omega)
          have hex := renew_ex (w' := w') hH hkn (hH.live b blk hg) hr t2 t3 hz2 t8
          have hnb : bsz w' r = c1.size := by simp [bsz, t4]
          refine ⟨E.renew n b r w', _, hrun, hex, renew_hr hH hkn (hH.live b blk hg) hr t2 t8 t3 t4 (by omega) (by simp; omega) (by omega) (fun j x v hx hv => ?_), renew_ub,
            .slice _ _ _ _ _ _ _ (by simp [Env.U, Env.renew]) (fun r' hr' => ?_) hle (fun c hc => by simp at hc)⟩
          · rw [List.getElem?_append, htl] at hx
            split at hx
            · next hlt =>
              rw [t6 j (.inl (by omega))] at hv
              rw [List.getElem?_take] at hx
              simp only [hlt, if_true] at hx
              exact hxx j x v hx hv
            · next hlt =>
              have hj2 : j - len * ssz < k * ssz := by
                rcases Nat.lt_or_ge (j - len * ssz) cells.length with h | h
                · omega
                · rw [List.getElem?_eq_none h] at hx; simp at hx
              have := t7 (j - len * ssz) hj2
              rw [show len * ssz + 0 + (j - len * ssz) = j by omega] at this
              rw [this] at hv
              exact hnv0 _ x v hx (by simpa using hv)
          · simp [Env.renew] at hr'
            subst hr'
            exact ⟨rfl, by rw [show (E.renew n b r w').w = w' from rfl, hnb]; omega⟩
        · have hel0 : celems H (.slice ssz b 0 len none) = some (ssz, len, (blk.drop 0).take (len * ssz)) := by
            simp only [celems, hg, Nat.zero_add, Nat.ble_eq_true_of_le hle2, if_true]
          rw [List.drop_zero] at hel0
          have hkx := (kill_ex E b).trans (uf5 _)
          obtain ⟨_, hcl0, hel0'⟩ := ud4 (P := P) (uh0 hH) (hsl.mono (uf5 E)) hel0
          obtain ⟨ovs, hfo, hos, hov⟩ := hel0' ssz len (Nat.le_refl _) (.inl rfl)
          rw [uo5 hcl0] at hov
          obtain ⟨newCap, rest, q1, q2, q3⟩ := ui6 (ty := ty) (base := some ⟨r, 0, none⟩) (sLen := len) (sCap := cap') h0 h1 h2 h3 hb hz hzl hb1 hb2 hl (by omega) hgb hf hfo
          have hkd : Ex E.draw (E.kill b).draw := kill_ex E.draw b
          obtain ⟨p1, p2, p3⟩ := grown_sound (kill_hr hH b) (show ¬ (E.kill b).U n from hfr n (Nat.le_refl _) (by omega)) (e := e) (rest := rest) (by rw [hos, hcl0]) (fun j x v hx hv => (hov j x v hx hv).mono hkd) (by rw [hfs, hcl])
            (fun j x v hx hv => (hnv j x v hx hv).mono hkd) hcl0 hcl q1 q2
          exact ⟨_, _, q3, (kill_ex E b).trans p2, p1, uj1 (E := (E.kill b).draw), p3⟩
    · simp at h

end
end Go.Cn
end
noncomputable section
namespace Go.Cn

section
variable {P : Program}

theorem ccopy_sound {E : Env} {H : ua8} (hH : HR E H) {argTypes : Array TypeId} {ty : TypeId} {d s x : CV} {v u : Value} {H' : ua8} {n n' lo : Nat} (hd : VR E d v) (hs : VR E s u)
    (h : ccopy P argTypes d s H n lo = some (x, H', n')) : ∃ E' r, (Builtin.copy_ argTypes ty #[v, u]).run P E.w = .ok r E'.w ∧ Ex E E' ∧ HR E' H' ∧ UB E E' n n' ∧ VR E' x r := by
  unfold ccopy at h
  split at h <;> try (simp at h; done)
  next dT h0 =>
  split at h <;> try (simp at h; done)
  next e h1 =>
  split at h <;> try (simp at h; done)
  next sz ysz k cells h2 hel =>
  obtain ⟨hl, hcl, hel'⟩ := ud4 (P := P) hH hs hel
  split at h <;> try (simp at h; done)
  · next dsz xs dcap =>
    split at h <;> simp only [Option.some.injEq, reduceCtorEq, Prod.mk.injEq] at h
    next hxs =>
    obtain ⟨rfl, rfl, rfl⟩ := h
    simp only [Bool.and_eq_true, Bool.or_eq_true] at hxs
    have hys' : sz = ysz ∨ k = 0 := by
      rcases hxs.2 with h | h
      · exact .inl (Nat.eq_of_beq_eq_true h).symm
      · exact .inr (by simpa using h)
    have hxs : xs = [] := by simpa using hxs.1
    subst hxs
    cases hd with
    | ro _ _ _ a cap' r o vs g1 g2 g3 g4 g5 g6 =>
    obtain ⟨nvs, hf, hfs, _⟩ := hel' sz 0 (Nat.zero_le _) hys'
    have hnil : nvs = #[] := by simpa using hfs
    subst hnil
    refine ⟨E, .int .i64 0, ?_, .refl E, hH, .refl, .int _ _⟩
    cases a <;> simp [Builtin.copy_, h0, run_underlying h1, hl, run_sizeOf' _ h2, hf, goInt, storeCells]
  · next dsz b off len dcap =>
    split at h <;> try (simp at h; done)
    next hcond =>
    split at h <;> try (simp at h; done)
    next blk hg =>
    split at h <;> simp only [Option.some.injEq, reduceCtorEq, Prod.mk.injEq] at h
    next hle =>
    obtain ⟨rfl, rfl, rfl⟩ := h
    simp only [Bool.or_eq_true, not_or, Bool.not_eq_true', Bool.not_eq_false, Nat.beq_eq_true_eq, Bool.and_eq_true] at hcond hle
    obtain ⟨hds, hys⟩ := hcond
    obtain ⟨hle, hsc⟩ := hle
    have hds : dsz = sz := by simpa using hds
    subst hds
    have hle := Nat.le_of_ble_eq_true hle.2
    obtain ⟨r, hr, hbr⟩ := hH.get b blk hg
    cases hd with
    | slice _ _ _ _ _ ad cap' g1 g2 g3 g4 =>
    obtain ⟨rfl, hB⟩ := g2 r hr
    have hys' : dsz = ysz ∨ k = 0 := by
      rcases hys with h | h
      · exact .inl (Nat.eq_of_beq_eq_true h).symm
      · exact .inr (by simpa using h)
    obtain ⟨nvs, hf, hfs, hnv⟩ := hel' dsz (Nat.min k len) (Nat.min_le_left _ _) hys'
    have hm : Nat.min k len * dsz ≤ len * dsz := Nat.mul_le_mul_right dsz (Nat.min_le_right _ _)
    have hm2 : Nat.min k len * dsz ≤ cells.length := by
      rcases hys' with h | h
      · rw [hcl, h]; exact Nat.mul_le_mul_right ysz (Nat.min_le_left _ _)
      · subst h; simp
    have htl : (cells.take (Nat.min k len * dsz)).length = Nat.min k len * dsz := by rw [List.length_take]; omega
    obtain ⟨E', s1, s2, s3, s4, s5, s6⟩ := ug9 (P := P) (cells.take (Nat.min k len * dsz)) (i := 0) (o := off) hH hg hr (vs := nvs.toList) (by omega) (by rw [htl]; simpa using hfs)
      (fun j x v hx hv => hnv j x v hx (by simpa using hv)) (by rw [List.all_eq_true] at hsc ⊢; exact fun x hx => hsc x (List.mem_of_mem_take hx))
    refine ⟨E', goInt (Nat.min k len : Nat), ?_, s2, s3, .of_eq s5, .int _ _⟩
    simp only [Builtin.copy_, h0, List.getElem?_toArray, List.getElem?_cons_zero, List.getElem?_cons_succ, Sem.run_bind, run_underlying h1, hl, run_sizeOf' _ h2, hf, Result.andThen_ok, s1, Sem.run_pure]

theorem clen_sound {E : Env} {argTypes : Array TypeId} {ty : TypeId} {x z : CV} {v : Value} (hx : VR E x v) (h : clen P argTypes x = some z) :
    (Builtin.len_ argTypes ty #[v]).run P E.w = .ok (toV z) E.w ∧ plainV z = true := by
  unfold clen at h
  split at h <;> try (simp at h; done)
  next t h0 =>
  split at h <;> simp only [Option.some.injEq, reduceCtorEq] at h
  · next s hu =>
    cases hx; subst h
    have hsz : ByteArray.size ⟨⟨s⟩⟩ = s.length := by simp [ByteArray.size]
    exact ⟨by simp [Builtin.len_, h0, run_underlying hu, goInt, toV, hsz], rfl⟩
  · next hu => cases hx; subst h; exact ⟨by simp [Builtin.len_, h0, run_underlying hu, goInt, toV], rfl⟩
  · next hu => cases hx; subst h; exact ⟨by simp [Builtin.len_, h0, run_underlying hu, goInt, toV], rfl⟩

theorem uo1 {E : Env} {x : CV} {xs : List CV} {vs : Array Value} (h : VRs E (x :: xs) vs) : ∃ v us, vs.toList = v :: us ∧ VR E x v ∧ VRs E xs us.toArray := by
  obtain ⟨h1, h2⟩ := h
  cases hv : vs.toList with
  | nil =>
    have : vs.size = 0 := by rw [← Array.length_toList, hv]; rfl
    rw [this] at h1; simp at h1
  | cons v us =>
    have hg : ∀ i, vs[i]? = (v :: us)[i]? := fun i => by rw [← hv, Array.getElem?_toList]
    refine ⟨v, us, rfl, h2 0 x v rfl (by rw [hg]; rfl), ?_, fun i y u hy hu => h2 (i + 1) y u hy (by rw [hg]; rw [List.getElem?_toArray] at hu; exact hu)⟩
    have : vs.size = us.length + 1 := by rw [← Array.length_toList, hv]; rfl
    simp at h1 ⊢; omega

theorem vrs_nil {E : Env} {vs : Array Value} (h : VRs E [] vs) : vs.toList = [] := by
  have : vs.size = 0 := by simpa using h.1
  simpa using this

theorem cminmax_sound {E : Env} (mx : Bool) : ∀ (rest : List CV) (x z : CV) (v : Value) (us : List Value), VR E x v → VRs E rest us.toArray → cminmax mx x rest = some z →
    (us.foldlM (if mx then Builtin.max2 else Builtin.min2) v : Sem Value).run P E.w = .ok (toV z) E.w ∧ plainV z = true := by
  intro rest
  induction rest with
  | nil =>
    intro x z v us hx hr h
    have : us = [] := vrs_nil hr
    subst this
    cases x <;> simp only [cminmax, Option.some.injEq, reduceCtorEq] at h
    subst h; cases hx; exact ⟨by simp [toV], rfl⟩
  | cons y rest ih =>
    intro x z v us hx hr h
    obtain ⟨u, us', hus, hu, hr'⟩ := uo1 hr
    have hus : us = u :: us' := hus
    subst hus
    unfold cminmax at h
    split at h
    · next k a k' b r' he =>
      simp only [List.cons.injEq] at he
      obtain ⟨rfl, rfl⟩ := he
      cases hx; cases hu
      have hstep := ih _ z (.int k (if mx then (if b > a then b else a) else (if b < a then b else a))) us' (.int _ _) hr' h
      rw [List.foldlM_cons, Sem.run_bind]
      cases mx
      · have : (Builtin.min2 (.int k a) (.int k' b)).run P E.w = .ok (.int k (if b < a then b else a)) E.w := by simp [Builtin.min2]
        simp only [Bool.false_eq_true, if_false] at hstep ⊢
        rw [this]; exact hstep
      · have : (Builtin.max2 (.int k a) (.int k' b)).run P E.w = .ok (.int k (if b > a then b else a)) E.w := by simp [Builtin.max2]
        simp only [if_true] at hstep ⊢
        rw [this]; exact hstep
    · next he => simp at he
    · simp at h

end
end Go.Cn
end
noncomputable section
namespace Go.Cn

section
variable {P : Program}

theorem alloc_vr {E : Env} {k : Nat} {o : Obj} : VR (E.alloc k o) (.ptr k 0) (.pointer (some ⟨E.w.heap.size, 0, none⟩)) :=
  .ptr _ _ _ (by simp [Env.U, Env.alloc]) fun r hr => by simp [Env.alloc] at hr; rw [hr]

theorem u8s_sound {E : Env} : ∀ (cells : List CV) (s : List UInt8) (vs : List Value) (acc : ByteArray) (w : World), u8s cells = some s → vs.length = cells.length → (∀ (j : Nat) x v, cells[j]? = some x → vs[j]? = some v → VR E x v) →
    (forIn vs acc fun c s => (match c with
      | .int .u8 n => pure (ForInStep.yield (s.push (UInt8.ofNat n.toNat)))
      | _ => do
        stuck "bytesToString: byte expected"
        pure (ForInStep.yield s) : Sem (ForInStep ByteArray))).run P w = .ok ⟨⟨acc.data.toList ++ s⟩⟩ w := by
  intro cells
  induction cells with
  | nil =>
    intro s vs acc w h hl _
    have : vs = [] := by simpa using hl
    subst this
    simp [u8s] at h
    subst h
    simp
  | cons x cells ih =>
    intro s vs acc w h hl hv
    cases vs with
    | nil => simp at hl
    | cons v vs =>
      have hxv := hv 0 x v rfl rfl
      cases x <;> try (simp [u8s] at h; done)
      · next k n =>
        cases k <;> try (simp [u8s] at h; done)
        simp only [u8s] at h
        split at h <;> simp only [Option.some.injEq, reduceCtorEq] at h
        next l hl' =>
        subst h
        cases hxv
        rw [List.forIn_cons, Sem.run_bind]
        simp only [Sem.run_pure, Result.andThen_ok]
        rw [ih l vs _ w hl' (by simpa using hl) (fun j y u hy hu => hv (j + 1) y u hy hu)]
        simp [ByteArray.data_push]

theorem ui3 {E : Env} {a : Addr} {len cap : Nat} {cells : List CV} {s : List UInt8} {vs : Array Value} {w : World} (h : u8s cells = some s) (hf : (loadCells a len).run P w = .ok vs w) (hl : vs.size = cells.length)
    (hv : ∀ (j : Nat) x v, cells[j]? = some x → vs[j]? = some v → VR E x v) : (Conv.bytesToString (.slice (some a) len cap)).run P w = .ok (.string ⟨⟨s⟩⟩) w := by
  have := u8s_sound (P := P) (E := E) cells s vs.toList ByteArray.empty w h (by simpa using hl) (fun j x v hx hu => hv j x v hx (by simpa using hu))
  simp only [Conv.bytesToString, Sem.run_bind, hf, Result.andThen_ok]
  rw [← Array.forIn_toList]
  exact (congrArg (fun r => Result.andThen r fun a w' => Sem.run P (pure (Value.string a)) w') this).trans (by simp)

theorem run_markNew {w : World} {cells : Array Value} {e : TypeId} :
    (markStringish ⟨w.heap.size, 0, none⟩).run P { w with heap := w.heap.push (.cells cells e) } = .ok () { w with heap := w.heap.push (.cells cells e (cells.size, cells.size + 1)) } := by
  have hsh : World.shape? { w with heap := w.heap.push (.cells cells e) } w.heap.size = some (e, cells.size) := by
    simp [World.shape?]
  simp only [markStringish, Sem.run_bind, run_shape, hsh, Result.andThen_ok, run_freeze, World.freeze]
  simp only [Nat.one_ne_zero, if_false]
  congr 2
  apply Array.ext
  · simp
  · intro i h1 h2
    rw [Array.getElem_modify]
    by_cases hi : w.heap.size = i
    · subst hi; simp
    · simp at h1
      have : i < w.heap.size := by omega
      simp [hi, Array.getElem_push_lt this]

theorem cconvert_sound {E : Env} {H : ua8} (hH : HR E H) {src dst : TypeId} {x z : CV} {v : Value} {H' : ua8} {n n' : Nat} (hx : VR E x v) (h : cconvert P src dst x H n = some (z, H', n')) (hfr : Fr E n n') :
    ∃ E' r, (convert src dst v).run P E.w = .ok r E'.w ∧ Ex E E' ∧ HR E' H' ∧ UB E E' n n' ∧ VR E' z r := by
  unfold cconvert at h
  split at h
  · next d k k' a hs hd =>
    simp only [Option.some.injEq, Prod.mk.injEq] at h
    obtain ⟨rfl, rfl, rfl⟩ := h
    cases hx
    refine ⟨E, .int k (k.wrap a), ?_, .refl E, hH, .refl, .int _ _⟩
    simp [convert, run_underlying hs, run_underlying hd, Conv.intToInt]
  · next s hs hd =>
    simp only [Option.some.injEq, Prod.mk.injEq] at h
    obtain ⟨rfl, rfl, rfl⟩ := h
    refine ⟨E, v, ?_, .refl E, hH, .refl, hx⟩
    cases hx
    simp [convert, run_underlying hs, run_underlying hd]
  · next e sz xs cap hs hd =>
    split at h <;> try (simp at h; done)
    next he =>
    split at h <;> try (simp at h; done)
    next hcond =>
    split at h <;> simp only [Option.some.injEq, reduceCtorEq, Prod.mk.injEq] at h
    next s hu =>
    obtain ⟨rfl, rfl, rfl⟩ := h
    obtain ⟨hl, hcl, hel⟩ := ud4 (P := P) (H := H) hH hx rfl
    have hsz : 1 = sz ∨ xs.length = 0 := by
      simp only [Bool.not_eq_true', Bool.not_eq_false, Bool.or_eq_true] at hcond
      rcases hcond with h | h
      · exact .inl (Nat.eq_of_beq_eq_true h).symm
      · exact .inr (by simpa using h)
    obtain ⟨vs, hf, hfs, hv⟩ := hel 1 xs.length (Nat.le_refl _) hsz
    cases hx with
    | ro _ _ _ a cap' r o vs' g1 g2 g3 g4 g5 g6 =>
    have hlen : xs.flatten.length = xs.length * 1 := by
      rcases hsz with h | h
      · rw [hcl, ← h]
      · rw [hcl, h]; simp
    rw [uo5 hlen] at hv
    refine ⟨E, .string ⟨⟨s⟩⟩, ?_, .refl E, hH, .refl, .str _⟩
    cases a with
    | none =>
      have hnil : xs = [] := by
        rcases Decidable.em (xs = []) with h | h
        · exact h
        · have := (g3 h).1; simp at this
      subst hnil
      simp [u8s] at hu
      subst hu
      simp [convert, run_underlying hs, run_underlying hd, run_underlying he, Conv.bytesToString]
      rfl
    | some a =>
      have hf' : (loadCells a xs.length).run P E.w = .ok vs E.w := by simpa [Builtin.firstCells] using hf
      have := ui3 (P := P) (cap := cap') (E := E) hu hf' (by rw [hfs, hlen]) hv
      simp only [convert, Sem.run_bind, run_underlying hs, run_underlying hd, run_underlying he, Result.andThen_ok, this]
  · next e sz b off len cap hs hd =>
    split at h <;> try (simp at h; done)
    next he =>
    split at h <;> try (simp at h; done)
    next hcond =>
    split at h <;> try (simp at h; done)
    next sz' k cells hce =>
    split at h <;> simp only [Option.some.injEq, reduceCtorEq, Prod.mk.injEq] at h
    next s hu =>
    obtain ⟨rfl, rfl, rfl⟩ := h
    have hsz : sz = 1 := by simpa using hcond
    subst hsz
    obtain ⟨hl, hcl, hel⟩ := ud4 (P := P) hH hx hce
    have hk : sz' = 1 ∧ k = len := by
      simp only [celems] at hce
      split at hce <;> try (simp at hce; done)
      split at hce <;> simp only [Option.some.injEq, reduceCtorEq, Prod.mk.injEq] at hce
      exact ⟨hce.1.symm, hce.2.1.symm⟩
    obtain ⟨rfl, rfl⟩ := hk
    obtain ⟨vs, hf, hfs, hv⟩ := hel 1 k (Nat.le_refl _) (.inl rfl)
    rw [uo5 hcl] at hv
    cases hx with
    | slice _ _ _ _ _ ad cap' g1 g2 g3 g4 =>
    have hf' : (loadCells ad k).run P E.w = .ok vs E.w := by simpa [Builtin.firstCells] using hf
    have := ui3 (P := P) (cap := cap') (E := E) hu hf' (by rw [hfs, hcl]) hv
    exact ⟨E, .string ⟨⟨s⟩⟩, by simp only [convert, Sem.run_bind, run_underlying hs, run_underlying hd, run_underlying he, Result.andThen_ok, this], .refl E, hH, .refl, .str _⟩
  · next e s hs hd =>
    split at h <;> try (simp at h; done)
    next he =>
    simp only [Option.some.injEq, Prod.mk.injEq] at h
    obtain ⟨rfl, rfl, rfl⟩ := h
    cases hx
    have hsz : ByteArray.size ⟨⟨s⟩⟩ = s.length := by simp [ByteArray.size]
    let nc := s.length + (E.w.tape E.w.drawn (.appendCap s.length 0 e)) % (2 ^ 63 - s.length)
    let cells : Array Value := (⟨s⟩ : Array UInt8).map (fun b => Value.int .u8 b.toNat) ++ Array.replicate (nc - s.length) (.int .u8 0)
    have hcs : cells.size = nc := by simp [cells, nc]
    have hkn : ¬ E.draw.U n := hfr n (Nat.le_refl _) (by omega)
    refine ⟨E.draw.alloc n (.cells cells e (nc, nc + 1)), .slice (some ⟨E.w.heap.size, 0, none⟩) s.length nc, ?_, (uf5 E).trans (uj4 (uh0 hH) hkn), ?_, uj1 (E := E.draw), ?_⟩
    · simp only [convert, Sem.run_bind, run_underlying hs, run_underlying hd, run_underlying he, Result.andThen_ok, Conv.stringToBytes, hsz, run_choose, Question.forced, Question.cut, Bool.false_eq_true, if_false]
      simp only [newRow, Sem.run_bind, run_newObj, Result.andThen_ok, Sem.run_pure]
      have hm := run_markNew (P := P) (w := E.draw.w) (cells := cells) (e := e)
      rw [hcs] at hm
      exact (congrArg (fun r => Result.andThen r fun a_1 w' => Sem.run P (pure (Value.slice (some ⟨E.w.heap.size, 0, none⟩) s.length nc)) w') hm).trans (by simp; rfl)
    · refine alloc_hrF (uh0 hH) hkn (.inr (by omega)) (by simp; omega) (fun j x v hj hv => ?_)
      have hjl : j < s.length := by
        rcases Nat.lt_or_ge j s.length with h | h
        · exact h
        · rw [List.getElem?_eq_none (by simpa using h)] at hj; simp at hj
      simp only [cells] at hv
      rw [Array.getElem?_append_left (by simpa using hjl)] at hv
      simp [hjl] at hj hv
      subst hj; subst hv
      exact .int _ _
    · refine .slice _ _ _ _ _ _ _ (by simp [Env.U, Env.alloc, Env.draw]) (fun r hr => ?_) (by omega) (fun c hc => by simp at hc)
      simp [Env.alloc, Env.draw] at hr
      subst hr
      refine ⟨rfl, ?_⟩
      have : bsz (E.draw.alloc n (.cells cells e (nc, nc + 1))).w E.w.heap.size = cells.size := by
        unfold bsz
        show (match (E.w.heap.push (.cells cells e (nc, nc + 1)))[E.w.heap.size]? with | some (.cells c _ _) => c.size | _ => 0) = _
        rw [Array.getElem?_push_size]
      omega
  · simp at h

end
end Go.Cn
end
noncomputable section
namespace Go.Cn

section
variable {P : Program}

def PR (E : Env) : List (Nat × CV) → List (Nat × Value) → Prop
  | [], [] => True
  | (i, x) :: ps, (j, v) :: qs => i = j ∧ VR E x v ∧ PR E ps qs
  | _, _ => False

theorem um6 {E : Env} {tm : CTm} {a : Act} (hT : TR E tm a) : ∀ {os : List (Nat × Operand)} {ps : List (Nat × CV)}, cparts tm os = some ps → PR E ps (os.map fun (i, x) => (i, a.eval x))
  | [], ps, h => by simp [cparts] at h; subst h; trivial
  | (i, o) :: os, ps, h => by
    simp only [cparts] at h
    split at h <;> simp only [Option.some.injEq, reduceCtorEq] at h
    next x ys hx hys =>
      subst h
      exact ⟨rfl, ub7 hT hx, um6 hT hys⟩

def CR (E : Env) (blk : List CV) (cs : Array Value) : Prop := cs.size = blk.length ∧ ∀ (j : Nat) x v, blk[j]? = some x → cs[j]? = some v → VR E x v

theorem CR.set {E : Env} {blk : List CV} {cs : Array Value} {k : Nat} {x : CV} {v : Value} (h : CR E blk cs) (hv : VR E x v) : CR E (blk.set k x) (cs.setIfInBounds k v) := by
  refine ⟨by simpa using h.1, fun j y u hy hu => ?_⟩
  by_cases e : k = j
  · subst e
    have hk : k < blk.length := by
      rcases Nat.lt_or_ge k blk.length with h' | h'
      · exact h'
      · rw [List.getElem?_eq_none (by simpa using h')] at hy; simp at hy
    rw [List.getElem?_set_self hk] at hy
    rw [Array.getElem?_setIfInBounds_self_of_lt (by have := h.1; omega)] at hu
    cases hy; cases hu; exact hv
  · rw [List.getElem?_set_ne e] at hy
    rw [Array.getElem?_setIfInBounds_ne e] at hu
    exact h.2 j y u hy hu

theorem foldl_put {E : Env} {off : Nat} : ∀ (xs : List CV) (vs : List Value) (k : Nat) (blk : List CV) (cs : Array Value), CR E blk cs → vs.length = xs.length → (∀ (j : Nat) x v, xs[j]? = some x → vs[j]? = some v → VR E x v) →
    CR E (putCells blk (off + k) xs) ((vs.zipIdx k).foldl (fun cs p => cs.setIfInBounds (off + p.2) p.1) cs)
  | [], vs, k, blk, cs, h, hl, _ => by
    have : vs = [] := by simpa using hl
    subst this
    simpa [putCells] using h
  | x :: xs, vs, k, blk, cs, h, hl, hv => by
    cases vs with
    | nil => simp at hl
    | cons v vs =>
      simp only [List.zipIdx_cons, List.foldl_cons, putCells]
      exact foldl_put xs vs (k + 1) _ _ (h.set (hv 0 x v rfl rfl)) (by simpa using hl) (fun j y u hy hu => hv (j + 1) y u hy hu)

theorem cfill_sound {E : Env} {place : Nat → Option (Nat × Nat)} : ∀ (ps : List (Nat × CV)) (qs : List (Nat × Value)) (blk : List CV) (cs : Array Value) (cells : List CV), PR E ps qs → CR E blk cs → cfill place blk ps = some cells →
    ∃ vs, Instr.fill place cs qs = some vs ∧ CR E cells vs := by
  intro ps
  induction ps with
  | nil =>
    intro qs blk cs cells hp hc h
    cases qs with
    | nil => simp [cfill] at h; subst h; exact ⟨cs, rfl, hc⟩
    | cons q qs => simp [PR] at hp
  | cons p ps ih =>
    intro qs blk cs cells hp hc h
    obtain ⟨i, x⟩ := p
    cases qs with
    | nil => simp [PR] at hp
    | cons q qs =>
      obtain ⟨j, v⟩ := q
      obtain ⟨rfl, hxv, hp⟩ := hp
      simp only [cfill] at h
      split at h <;> try (simp at h; done)
      next off size hpl =>
      split at h <;> try (simp at h; done)
      next hcond =>
      simp only [Bool.and_eq_true] at hcond
      have h1 := Nat.eq_of_beq_eq_true hcond.1
      have h2 := Nat.le_of_ble_eq_true hcond.2
      obtain ⟨c1, c2⟩ := up8 hxv
      have hno : (decide (v.cells.size ≠ size) || decide (off + v.cells.size > cs.size)) = false := by
        have := hc.1
        simp
        omega
      simp only [Instr.fill, hpl, hno, Bool.false_eq_true, if_false]
      refine ih qs _ _ cells hp ?_ h
      have := foldl_put (off := off) x.cells v.cells.toList 0 blk cs hc (by simpa using c1) (fun j y u hy hu => c2 j y u hy (by simpa using hu))
      rw [Nat.add_zero] at this
      rw [← Array.foldl_toList]
      simpa using this

theorem run_mapM_list {α β : Type} {f : α → Sem β} {g : α → β} {w : World} : ∀ (l : List α), (∀ x ∈ l, (f x).run P w = .ok (g x) w) → (l.mapM f).run P w = .ok (l.map g) w
  | [], _ => by simp
  | x :: l, h => by
    simp only [List.mapM_cons, Sem.run_bind, h x (by simp), Result.andThen_ok]
    rw [run_mapM_list l (fun y hy => h y (by simp [hy]))]
    simp

theorem run_mapM {α β : Type} {f : α → Sem β} {g : α → β} {w : World} (l : Array α) (h : ∀ x ∈ l.toList, (f x).run P w = .ok (g x) w) : (l.mapM f).run P w = .ok (l.map g) w := by
  rw [Array.mapM_eq_mapM_toList]
  simp only [Sem.run_map, run_mapM_list l.toList h, Result.andThen_ok]
  congr 1
  apply Array.ext'
  simp

theorem czero_cr {E : Env} {t : TypeId} {z : List CV} (h : czero P t = some z) : ∃ v, (∀ w, (zeroValue t).run P w = .ok v w) ∧ CR E z v.cells := by
  obtain ⟨v, h1, h2, h3⟩ := run_zeroValue' h
  exact ⟨v, h1, h2, h3 E⟩

theorem cbuild_sound {E : Env} {t : TypeId} {ps : List (Nat × CV)} {qs : Array (Nat × Value)} {x : CV} (hp : PR E ps qs.toList) (h : cbuild P t ps = some x) :
    ∃ r, (Instr.build t qs).run P E.w = .ok r E.w ∧ VR E x r := by
  unfold cbuild at h
  split at h
  · next z fs hz hu =>
    split at h <;> try (simp at h; done)
    next cells hf =>
    split at h <;> simp only [Option.some.injEq, reduceCtorEq] at h
    next hall =>
    subst h
    obtain ⟨zv, hz1, hz2⟩ := czero_cr (E := E) hz
    obtain ⟨vs, hfill, hcr⟩ := cfill_sound ps qs.toList z zv.cells cells hp hz2 hf
    refine ⟨.agg vs, ?_, .agg _ _ hcr.1 hcr.2⟩
    rw [List.all_eq_true] at hall
    have hm := run_mapM (P := P) (w := E.w) (f := fun f : Field => (do pure (f.offset, ← sizeOf f.type) : Sem (Nat × Nat))) (g := fun f => (f.offset, (tsize P f.type).getD 0)) fs (fun f hf => by
      obtain ⟨s, hs⟩ := Option.isSome_iff_exists.1 (hall f hf)
      simp [run_sizeOf' _ hs, hs])
    have hpl : (fun i : Nat => (fs.map fun f => (f.offset, (tsize P f.type).getD 0))[i]?) = fun i : Nat => match (fs[i]? : Option Field) with | some f => (match tsize P f.type with | some s => some (f.offset, s) | none => none) | none => none := by
      funext i
      rw [Array.getElem?_map]
      cases hi : fs[i]? with
      | none => rfl
      | some f =>
        have hmem : f ∈ fs.toList := by
          have := Array.mem_of_getElem? hi
          simpa using this
        obtain ⟨s, hs⟩ := Option.isSome_iff_exists.1 (hall f hmem)
        simp [hs]
    simp only [Instr.build, Sem.run_bind, hz1, run_underlying hu, Result.andThen_ok]
    rw [hm]
    have hfill' : Instr.fill (fun i : Nat => (fs.map fun f => (f.offset, (tsize P f.type).getD 0))[i]?) zv.cells qs.toList = some vs := by rw [hpl]; exact hfill
    simp only [Result.andThen_ok, hfill', Sem.run_pure]
  · next z n e hz hu =>
    split at h <;> try (simp at h; done)
    next s hs =>
    split at h <;> simp only [Option.some.injEq, reduceCtorEq] at h
    next cells hf =>
    subst h
    obtain ⟨zv, hz1, hz2⟩ := czero_cr (E := E) hz
    obtain ⟨vs, hfill, hcr⟩ := cfill_sound ps qs.toList z zv.cells cells hp hz2 hf
    refine ⟨.agg vs, ?_, .agg _ _ hcr.1 hcr.2⟩
    simp only [Instr.build, Sem.run_bind, hz1, run_underlying hu, run_sizeOf' _ hs, Result.andThen_ok, hfill, Sem.run_pure]
  · simp at h

theorem zeros_cr {E : Env} {z : List CV} {zc : Array Value} {n : Nat} (hz : CR E z zc) (hn : n ≠ 0 → z.length ≠ 0) :
    CR E (czeros z n) ((Array.range n).map fun i => (if n = 0 then #[] else zc)[i % (if n = 0 then #[] else zc).size]!) := by
  by_cases h0 : n = 0
  · subst h0; simp [czeros, CR]
  · simp only [h0, if_false]
    refine ⟨by simp [czeros], fun j x v hx hv => ?_⟩
    have hj : j < n := by
      rcases Nat.lt_or_ge j n with h | h
      · exact h
      · rw [List.getElem?_eq_none (by simpa [czeros] using h)] at hx; simp at hx
    have hm : j % z.length < z.length := Nat.mod_lt _ (by have := hn h0; omega)
    simp [czeros, hj] at hx
    simp [hj, hz.1] at hv
    have hm' : j % z.length < zc.size := by rw [hz.1]; exact hm
    rw [List.getElem?_eq_getElem hm] at hx
    rw [getElem!_pos zc _ hm'] at hv
    simp at hx
    subst hx; subst hv
    exact hz.2 _ _ _ (List.getElem?_eq_getElem hm) (Array.getElem?_eq_getElem hm')

theorem new_slice {E : Env} {H : ua8} (hH : HR E H) {n : Nat} (hk : ¬ E.U n) {cells : List CV} {vs : Array Value} {e s len cap : Nat} (hc : CR E cells vs) (hl : cells.length = cap * s) (hlc : len ≤ cap) :
    HR (E.alloc n (.cells vs e)) ((n, cells) :: H) ∧ VR (E.alloc n (.cells vs e)) (.slice s n 0 len (some cap)) (.slice (some ⟨E.w.heap.size, 0, none⟩) len cap) := by
  refine ⟨alloc_hr hH hk (Nat.le_of_eq hc.1.symm) hc.2, .slice _ _ _ _ _ _ _ (by simp [Env.U, Env.alloc]) (fun r hr => ?_) hlc (fun c hc => Option.some.inj hc)⟩
  simp [Env.alloc] at hr
  subst hr
  refine ⟨rfl, ?_⟩
  have : bsz (E.alloc n (.cells vs e)).w E.w.heap.size = vs.size := by
    unfold bsz
    show (match (E.w.heap.push (.cells vs e))[E.w.heap.size]? with | some (.cells c _ _) => c.size | _ => 0) = _
    rw [Array.getElem?_push_size]
  rw [this, hc.1, hl]
  omega

theorem cbuildSlice_sound {E : Env} {H : ua8} (hH : HR E H) {t : TypeId} {len : Nat} {ps : List (Nat × CV)} {qs : Array (Nat × Value)} {x : CV} {H' : ua8} {n n' : Nat} (hp : PR E ps qs.toList)
    (h : cbuildSlice P t len ps H n = some (x, H', n')) (hfr : Fr E n n') : ∃ E' r, (Instr.buildSlice t len qs).run P E.w = .ok r E'.w ∧ Ex E E' ∧ HR E' H' ∧ UB E E' n n' ∧ VR E' x r := by
  unfold cbuildSlice at h
  split at h <;> try (simp at h; done)
  next e hu =>
  split at h <;> try (simp at h; done)
  next s z hs hz =>
  split at h <;> try (simp at h; done)
  next hcond =>
  split at h <;> simp only [Option.some.injEq, reduceCtorEq, Prod.mk.injEq] at h
  next cells hf =>
  obtain ⟨rfl, rfl, rfl⟩ := h
  simp only [Bool.or_eq_true, not_or, Bool.not_eq_true', Bool.not_eq_false, Nat.blt_eq] at hcond
  obtain ⟨hzl, hle⟩ := hcond
  have hzl := Nat.eq_of_beq_eq_true hzl
  obtain ⟨zv, hz1, hz2⟩ := czero_cr (E := E) hz
  have hne : len * s ≠ 0 → z.length ≠ 0 := by
    intro h1 h2
    apply h1
    rw [← hzl, h2, Nat.mul_zero]
  have hcr0 := zeros_cr hz2 hne
  obtain ⟨vs, hfill, hcr⟩ := cfill_sound ps qs.toList _ _ cells hp hcr0 hf
  have hlen : cells.length = len * s := by
    have : ∀ (ps : List (Nat × CV)) (blk cells : List CV), cfill (fun i => some (i * s, s)) blk ps = some cells → cells.length = blk.length := by
      intro ps
      induction ps with
      | nil => intro blk cells h; simp [cfill] at h; rw [h]
      | cons p ps ih =>
        intro blk cells h
        obtain ⟨i, x⟩ := p
        simp only [cfill] at h
        split at h <;> try (simp at h; done)
        rw [ih _ _ h, put_length]
    rw [this ps _ cells hf]
    simp [czeros]
  have hkn : ¬ E.U n := hfr n (Nat.le_refl _) (by omega)
  obtain ⟨q1, q2⟩ := new_slice hH hkn (e := e) hcr hlen (Nat.le_refl len)
  refine ⟨_, _, ?_, uj4 hH hkn, q1, uj1, q2⟩
  have hbig : ¬ (len * s > 2 ^ 24) := by omega
  simp only [Instr.buildSlice, Sem.run_bind, run_underlying hu, run_sizeOf' _ hs, Result.andThen_ok, Sem.run_ite, if_neg hbig]
  by_cases h0 : len * s = 0
  · simp only [h0, if_true, Sem.run_pure, Result.andThen_ok] at hfill ⊢
    simp only [hfill, newRow, Sem.run_bind, run_newObj, Result.andThen_ok, Sem.run_pure]
    rfl
  · simp only [h0, if_false, Sem.run_bind, hz1, Sem.run_pure, Result.andThen_ok] at hfill ⊢
    simp only [hfill, newRow, Sem.run_bind, run_newObj, Result.andThen_ok, Sem.run_pure]
    rfl

theorem cmakeSlice_sound {E : Env} {H : ua8} (hH : HR E H) {t : TypeId} {x y z : CV} {v u : Value} {H' : ua8} {n n' : Nat} (hx : VR E x v) (hy : VR E y u) (h : cmakeSlice P t x y H n = some (z, H', n')) (hfr : Fr E n n') :
    ∃ E' r, (Instr.makeSlice t v u).run P E.w = .ok r E'.w ∧ Ex E E' ∧ HR E' H' ∧ UB E E' n n' ∧ VR E' z r := by
  unfold cmakeSlice at h
  split at h <;> try (simp at h; done)
  next e k l k' c hu =>
  split at h <;> try (simp at h; done)
  next sz by' zz hs hb hz =>
  split at h <;> simp only [Option.some.injEq, reduceCtorEq, Prod.mk.injEq] at h
  next hcond =>
  obtain ⟨rfl, rfl, rfl⟩ := h
  simp only [Bool.or_eq_true, not_or, Bool.not_eq_true', Bool.not_eq_false, decide_eq_true_eq] at hcond
  obtain ⟨⟨⟨⟨h1, h2⟩, h3⟩, h4⟩, h5⟩ := hcond
  have h3 := Nat.eq_of_beq_eq_true h3
  have h4 := Nat.le_of_ble_eq_true h4
  have h5 := Nat.le_of_ble_eq_true h5
  unfold growBytes at h5
  cases hx; cases hy
  obtain ⟨i, hi, hib⟩ := run_bytes hb
  obtain ⟨zv, hz1, hz2⟩ := czero_cr (E := E) hz
  have hc0 : c.toNat ≤ 70368744177664 := by
    have := Nat.mul_le_mul_left c.toNat h4
    omega
  have wl : IntKind.i64.wrap l = l := by unfold IntKind.wrap; simp [IntKind.bits, IntKind.signed]; omega
  have wc : IntKind.i64.wrap c = c := by unfold IntKind.wrap; simp [IntKind.bits, IntKind.signed]; omega
  have hbc : (by' : Int) * c ≤ 70368744177664 := by
    have : ((c.toNat * by' : Nat) : Int) ≤ 70368744177664 := by omega
    rw [Int.natCast_mul, Int.toNat_of_nonneg (by omega), Int.mul_comm] at this
    exact this
  have hne : c.toNat * sz ≠ 0 → zz.length ≠ 0 := by
    intro h1 h2
    apply h1
    rw [← h3, h2, Nat.mul_zero]
  have hcr := zeros_cr hz2 hne
  have hkn : ¬ E.U n := hfr n (Nat.le_refl _) (by omega)
  obtain ⟨q1, q2⟩ := new_slice hH hkn (e := e) (cap := c.toNat) (s := sz) (len := l.toNat) hcr (by simp [czeros]) (by omega)
  refine ⟨_, _, ?_, uj4 hH hkn, q1, uj1, q2⟩
  have t1 : ¬ (c < 0) := by omega
  have t2 : ¬ ((by' : Int) * c > 2 ^ 48) := by omega
  simp only [Instr.makeSlice, Sem.run_bind, run_underlying hu, asInt, asIntOf, Sem.run_pure, Result.andThen_ok, hi, wl, wc, hib, t1, t2, h1, h2, decide_false, Bool.or_self, Bool.false_eq_true, if_false, run_askRoom, run_sizeOf' _ hs, gt_iff_lt]
  by_cases h0 : c.toNat * sz = 0
  · simp only [h0, if_true, Sem.run_pure, Result.andThen_ok, newRow, Sem.run_bind, run_newObj]
    rfl
  · simp only [h0, if_false, Sem.run_bind, hz1, Sem.run_pure, Result.andThen_ok, newRow, run_newObj]
    rfl

end
end Go.Cn
end
noncomputable section
namespace Go.Cn

/-- (nothing: an ending for want of memory never comes) -/
def LetsGo (Q : Exit → Act → World → Prop) : Prop := True

section
variable {P : Program}

/-! ### numbers only grow; what lies below 'lo' is not written -/
def ug7 (H H' : ua8) (n n' lo : Nat) : Prop := n ≤ n' ∧ (lo ≤ n → ∀ b, b < lo → hget H' b = hget H b) ∧ (Keys H n → Keys H' n')

theorem ug7.refl {H : ua8} {n lo : Nat} : ug7 H H n n lo := ⟨Nat.le_refl _, fun _ _ _ => rfl, fun h => h⟩

theorem ug7.new {H : ua8} {n lo : Nat} {blk : List CV} : ug7 H ((n, blk) :: H) n (n + 1) lo :=
  ⟨Nat.le_succ _, fun h b hb => by rw [ub2, if_neg (by omega)], fun h b bl hb => by
    rw [ub2] at hb
    split at hb
    · omega
    · have := h b bl hb; omega⟩

theorem ug7.trans {H H' H'' : ua8} {n n' n'' lo : Nat} (h : ug7 H H' n n' lo) (h' : ug7 H' H'' n' n'' lo) : ug7 H H'' n n'' lo :=
  ⟨Nat.le_trans h.1 h'.1, fun hl b hb => (h'.2.1 (Nat.le_trans hl h.1) b hb).trans (h.2.1 hl b hb), fun hk => h'.2.2 (h.2.2 hk)⟩

theorem ug7.set {H : ua8} {n lo b : Nat} {blk : List CV} (h : lo ≤ b) : ug7 H (hset H b blk) n n lo :=
  ⟨Nat.le_refl _, fun _ c hc => by rw [uf2, if_neg (by omega)], fun hk c bl hc => by
    rw [uf2] at hc
    split at hc
    · cases hg : hget H c with
      | none => simp [hg] at hc
      | some x => exact hk c x hg
    · exact hk c bl hc⟩

theorem ug7.del {H : ua8} {n lo b : Nat} {blk : List CV} (h : lo ≤ b) : ug7 H ((n, blk) :: hdel H b) n (n + 1) lo :=
  ⟨Nat.le_succ _, fun hl c hc => by rw [ub2, if_neg (by omega), ug1, if_neg (by omega)], fun hk c bl hc => by
    rw [ub2, ug1] at hc
    split at hc
    · omega
    · split at hc
      · simp at hc
      · have := hk c bl hc; omega⟩

/-- a function, called at these canonical values in this canonical memory, returns so; or the memory of the machine does not bear it. 'n', 'n'': the numbers from n to n' - 1 are free for new blocks -/
def HC (P : Program) (f : FuncId) (args : List CV) (H : ua8) (n n' : Nat) (Q : CV → ua8 → Prop) : Prop :=
  ∀ (E : Env) (vs : Array Value), Fr E n n' → Keys H n → HR E H → VRs E args vs → Calls P f vs E.w fun e w' =>
    ∃ v x H' E', e = .returned v ∧ E'.w = w' ∧ Ex E E' ∧ HR E' H' ∧ UB E E' n n' ∧ VR E' x v ∧ Q x H'

def enterable (P : Program) (f : FuncId) : Prop := ∃ fn, P.funcs[f]? = some fn ∧ fn.body.isSome = true ∧ (fn.name == "runtime.NumGoroutine") = false

def ue5 (P : Program) (call : Call) : Prop := ∀ f args H n lo x H' n', call f args H n lo = some (x, H', n') →
  enterable P f ∧ ug7 H H' n n' lo ∧ HC P f args H n n' fun y K => y = x ∧ K = H'

theorem vrs_append {E : Env} {xs ys : List CV} {vs us : Array Value} (h1 : VRs E xs vs) (h2 : VRs E ys us) : VRs E (xs ++ ys) (vs ++ us) := by
  refine ⟨by simp [h1.1, h2.1], fun i x v hx hv => ?_⟩
  rw [List.getElem?_append] at hx
  rw [Array.getElem?_append, h1.1] at hv
  split at hx
  · next hlt => simp only [hlt, if_true] at hv; exact h1.2 i x v hx hv
  · next hlt => simp only [hlt, if_false] at hv; exact h2.2 _ x v hx hv

theorem uk8 {o : Oper} {a : Act} {w w' : World} {next : Act → World → Prop} {Q : Exit → Act → World → Prop} {v : Value} (h : (execOp a.eval o).run P w = .ok (.value v) w') (hk : next (a.put o.dst v) w') : o.wp P a w next Q := by
  unfold Oper.wp; rw [h]; exact hk

theorem run_v {s : Sem Value} {w w' : World} {v : Value} (h : s.run P w = .ok v w') : (do pure (Next.value (← s)) : Sem Next).run P w = .ok (.value v) w' := by
  simp [h]

theorem vrs_two {E : Env} {x y : CV} {vs : Array Value} (h : VRs E [x, y] vs) : ∃ v u, vs = #[v, u] ∧ VR E x v ∧ VR E y u := by
  obtain ⟨v, us, h1, h2, h3⟩ := uo1 h
  obtain ⟨u, us', h4, h5, h6⟩ := uo1 h3
  have h7 := vrs_nil h6
  refine ⟨v, u, ?_, h2, h5⟩
  apply Array.ext'
  have h4 : us = u :: us' := h4
  have h7 : us' = [] := h7
  rw [h1, h4, h7]

theorem vrs_one {E : Env} {x : CV} {vs : Array Value} (h : VRs E [x] vs) : ∃ v, vs = #[v] ∧ VR E x v := by
  obtain ⟨v, us, h1, h2, h3⟩ := uo1 h
  have h7 := vrs_nil h3
  refine ⟨v, ?_, h2⟩
  apply Array.ext'
  have h7 : us = [] := h7
  rw [h1, h7]

theorem ccall_sound {call : Call} (hS : ue5 P call) {o : Oper} {c : Go.Call} (ho : o.op = .call c) {tm : CTm} {H H' : ua8} {n n' lo : Nat} {x : CV} {E : Env} {a : Act} (hH : HR E H) (hKy : Keys H n) (hT : TR E tm a)
    (h : ccall P call c tm H n lo = some (x, H', n')) (hfr : Fr E n n') {next : Act → World → Prop} {Q : Exit → Act → World → Prop} (hL : LetsGo Q)
    (hK : ∀ E' v, Ex E E' → HR E' H' → UB E E' n n' → VR E' x v → next (a.put o.dst v) E'.w) : o.wp P a E.w next Q := by
  unfold ccall at h
  split at h <;> try (simp at h; done)
  next args hargs =>
  have hva := cvals_vrs hT hargs
  split at h
  · next f hcal =>
    split at h <;> try (simp at h; done)
    next g first captured hf =>
    obtain ⟨⟨fn, hfn, hbody, hname⟩, _, hc⟩ := hS _ _ _ _ _ _ _ _ h
    have hvf := ub7 hT hf
    generalize hv : a.eval f = v at hvf
    cases hvf with
    | fn _ _ _ fs cs g1 g2 g3 g4 =>
    have hrun : (execOp a.eval o).run P E.w = .ok (.enter g (fs ++ c.args.map a.eval ++ cs)) E.w := by
      have hnone : fn.body.isNone = false := by cases hb : fn.body <;> simp_all
      have hname' : fn.name ≠ "runtime.NumGoroutine" := by simpa using hname
      have hbn : fn.body ≠ none := by intro e; simp [e] at hbody
      simp [execOp, ho, resolve, hcal, hv, Deferred.ofValue, invoke, callFunc, hfn, hname', hnone, hbn]
    unfold Oper.wp
    rw [hrun]
    refine (hc E _ hfr hKy hH (vrs_append (vrs_append ⟨g1, g3⟩ hva) ⟨g2, g4⟩)).mono ?_
    intro e w' hR
    obtain ⟨v, y, K, E', rfl, rfl, hex, hh, hub, hvr, rfl, rfl⟩ := hR
    exact hK E' v hex hh hub hvr
  · next hcal =>
    split at h <;> try (simp at h; done)
    next y =>
    split at h <;> simp only [Option.some.injEq, reduceCtorEq, Prod.mk.injEq] at h
    next z hz =>
    obtain ⟨rfl, rfl, rfl⟩ := h
    obtain ⟨v, hv, hvr⟩ := vrs_one hva
    obtain ⟨h1, h2⟩ := clen_sound (P := P) (ty := o.type) hvr hz
    refine uk8 (v := toV z) (w' := E.w) ?_ (hK E _ (.refl E) hH .refl (un6 h2))
    simp [execOp, ho, resolve, hcal, invoke, builtin, hv, h1]
  · next hcal =>
    split at h <;> try (simp at h; done)
    next s y =>
    obtain ⟨v, u, hv, hs, hy⟩ := vrs_two hva
    obtain ⟨E', r, h1, h2, h3, h4, h5⟩ := cappend_sound hH (ty := o.type) hs hy h hfr
    refine uk8 (v := r) (w' := E'.w) ?_ (hK E' r h2 h3 h4 h5)
    simp [execOp, ho, resolve, hcal, invoke, builtin, hv, h1]
  · next hcal =>
    split at h <;> try (simp at h; done)
    next s y =>
    obtain ⟨v, u, hv, hs, hy⟩ := vrs_two hva
    obtain ⟨E', r, h1, h2, h3, h4, h5⟩ := ccopy_sound hH (ty := o.type) hs hy h
    refine uk8 (v := r) (w' := E'.w) ?_ (hK E' r h2 h3 h4 h5)
    simp [execOp, ho, resolve, hcal, invoke, builtin, hv, h1]
  · next hcal =>
    split at h <;> try (simp at h; done)
    next y r =>
    split at h <;> simp only [Option.some.injEq, reduceCtorEq, Prod.mk.injEq] at h
    next z hz =>
    obtain ⟨rfl, rfl, rfl⟩ := h
    obtain ⟨v, us, hv, hvr, hrest⟩ := uo1 hva
    obtain ⟨h1, h2⟩ := cminmax_sound (P := P) true r y z v us hvr hrest hz
    simp only [if_true] at h1
    refine uk8 (v := toV z) (w' := E.w) ?_ (hK E _ (.refl E) hH .refl (un6 h2))
    have hv' : (c.args.toList.map a.eval) = v :: us := by rw [← hv]; simp
    simp [execOp, ho, resolve, hcal, invoke, builtin, Builtin.max_, hv', h1]
  · next hcal =>
    split at h <;> try (simp at h; done)
    next y r =>
    split at h <;> simp only [Option.some.injEq, reduceCtorEq, Prod.mk.injEq] at h
    next z hz =>
    obtain ⟨rfl, rfl, rfl⟩ := h
    obtain ⟨v, us, hv, hvr, hrest⟩ := uo1 hva
    obtain ⟨h1, h2⟩ := cminmax_sound (P := P) false r y z v us hvr hrest hz
    simp only [Bool.false_eq_true, if_false] at h1
    refine uk8 (v := toV z) (w' := E.w) ?_ (hK E _ (.refl E) hH .refl (un6 h2))
    have hv' : (c.args.toList.map a.eval) = v :: us := by rw [← hv]; simp
    simp [execOp, ho, resolve, hcal, invoke, builtin, Builtin.min_, hv', h1]
  · simp at h

theorem cop_sound {call : Call} (hS : ue5 P call) {o : Oper} {tm : CTm} {H H' : ua8} {n n' lo : Nat} {x : CV} {E : Env} {a : Act} (hH : HR E H) (hKy : Keys H n) (hT : TR E tm a)
    (h : cop P call o.op tm H n lo = some (x, H', n')) (hfr : Fr E n n') {next : Act → World → Prop} {Q : Exit → Act → World → Prop} (hL : LetsGo Q)
    (hK : ∀ E' v, Ex E E' → HR E' H' → UB E E' n n' → VR E' x v → next (a.put o.dst v) E'.w) : o.wp P a E.w next Q := by
  have pureK : ∀ {y : Option CV} {v : Value}, (match y with | some v => some (v, H, n) | none => none) = some (x, H', n') → (∀ z, y = some z → VR E z v) → (execOp a.eval o).run P E.w = .ok (.value v) E.w → o.wp P a E.w next Q := by
    intro y v hy hv hrun
    cases y with
    | none => simp at hy
    | some z =>
      simp only [Option.some.injEq, Prod.mk.injEq] at hy
      obtain ⟨rfl, rfl, rfl⟩ := hy
      exact uk8 hrun (hK E v (.refl E) hH .refl (hv z rfl))
  have pureR : ∀ {y : Option CV} {s : Sem Value}, (match y with | some v => some (v, H, n) | none => none) = some (x, H', n') → (∀ z, y = some z → ∃ v, s.run P E.w = .ok v E.w ∧ VR E z v) → execOp a.eval o = (do pure (Next.value (← s))) → o.wp P a E.w next Q := by
    intro y s hy hv hrun
    cases y with
    | none => simp at hy
    | some z =>
      obtain ⟨v, h1, h2⟩ := hv z rfl
      exact pureK (y := some z) (v := v) hy (fun z' hz' => by cases hz'; exact h2) (by rw [hrun]; exact run_v h1)
  unfold cop at h
  split at h
  · next y ho => exact pureK h (fun z hz => ub7 hT hz) (by simp [execOp, ho])
  · next y ho => exact pureK h (fun z hz => ub7 hT hz) (by simp [execOp, ho])
  · next c p q ho =>
    split at h <;> try (simp at h; done)
    · next hc =>
      have := ub7 hT hc
      generalize hv : a.eval c = v at this
      cases this
      exact pureK h (fun z hz => ub7 hT hz) (by simp [execOp, ho, hv, asBool])
    · next hc =>
      have := ub7 hT hc
      generalize hv : a.eval c = v at this
      cases this
      exact pureK h (fun z hz => ub7 hT hz) (by simp [execOp, ho, hv, asBool])
  · next t ho =>
    split at h <;> simp only [Option.some.injEq, reduceCtorEq, Prod.mk.injEq] at h
    next z hz =>
    obtain ⟨rfl, rfl, rfl⟩ := h
    obtain ⟨zv, h1, h2⟩ := czero_cr (E := E) hz
    have hkn : ¬ E.U n := hfr n (Nat.le_refl _) (by omega)
    refine uk8 (w' := (E.alloc n (.cells zv.cells t)).w) ?_ (hK _ _ (uj4 hH hkn) (alloc_hr hH hkn (Nat.le_of_eq h2.1.symm) h2.2) uj1 alloc_vr)
    simp [execOp, ho, Instr.alloc, h1, newVar, newRow, Env.alloc]
  · next t y ho =>
    split at h <;> simp only [Option.some.injEq, reduceCtorEq, Prod.mk.injEq] at h
    next z hz =>
    obtain ⟨rfl, rfl, rfl⟩ := h
    obtain ⟨c1, c2⟩ := up8 (ub7 hT hz)
    have hkn : ¬ E.U n := hfr n (Nat.le_refl _) (by omega)
    refine uk8 (w' := (E.alloc n (.cells (a.eval y).cells t)).w) ?_ (hK _ _ (uj4 hH hkn) (alloc_hr hH hkn (Nat.le_of_eq c1.symm) c2) uj1 alloc_vr)
    simp [execOp, ho, Instr.box, newVar, newRow, Env.alloc]
  · next t parts ho =>
    split at h <;> try (simp at h; done)
    next ps hps =>
    have hp := um6 hT hps
    refine pureR h (fun z hz => cbuild_sound (qs := parts.map fun (i, x) => (i, a.eval x)) (by simpa using hp) hz) (by simp only [execOp, ho])
  · next t len parts ho =>
    split at h <;> try (simp at h; done)
    next ps hps =>
    have hp := um6 hT hps
    obtain ⟨E', r, h1, h2, h3, h4, h5⟩ := cbuildSlice_sound hH (qs := parts.map fun (i, x) => (i, a.eval x)) (by simpa using hp) h hfr
    exact uk8 (by simp only [execOp, ho]; exact run_v h1) (hK E' r h2 h3 h4 h5)
  · next t y ho =>
    split at h <;> try (simp at h; done)
    next p hp =>
    exact pureR h (fun z hz => cload_sound hH (ub7 hT hp) hz) (by simp only [execOp, ho])
  · next t p y ho =>
    split at h <;> try (simp at h; done)
    next b off z s hp hz hs =>
    split at h <;> try (simp at h; done)
    next blk hg =>
    split at h <;> simp only [Option.some.injEq, reduceCtorEq, Prod.mk.injEq] at h
    next hcond =>
    simp only [Bool.and_eq_true] at hcond
    obtain ⟨rfl, rfl, rfl⟩ := h
    have hl1 := Nat.eq_of_beq_eq_true hcond.1.1.2
    have hl2 := Nat.le_of_ble_eq_true hcond.1.2
    obtain ⟨r, hr, hbr⟩ := hH.get b blk hg
    obtain ⟨c1, c2⟩ := up8 (ub7 hT hz)
    have hpv := ub7 hT hp
    generalize hv : a.eval p = v at hpv
    cases hpv with
    | ptr _ _ ad g1 g2 =>
    obtain rfl := g2 r hr
    obtain ⟨E', s1, s2, s3, s4, s5, s6⟩ := ug9 (P := P) z.cells (i := 0) (o := off) hH hg hr (vs := (a.eval y).cells.toList) (by omega) (by simpa using c1)
      (fun j x v hx hv => c2 j x v hx (by simpa using hv)) hcond.2
    have hrun : (execOp a.eval o).run P E.w = .ok .skip E'.w := by
      have hne : ¬ ((a.eval y).cells.size ≠ s) := by rw [c1, hl1]; simp
      simp [execOp, ho, hv, Instr.storeAt, Instr.sureAddr, storeVar, run_sizeOf' _ hs, s1, c1, hl1]
    unfold Oper.wp
    rw [hrun]
    exact hK E' undef s2 s3 (.of_eq s5) (.tup [] #[] rfl (fun i x v hx => by simp at hx))
  · next y ho =>
    split at h <;> try (simp at h; done)
    next z hz =>
    split at h <;> simp only [Option.some.injEq, reduceCtorEq, Prod.mk.injEq] at h
    next hlive =>
    obtain ⟨rfl, rfl, rfl⟩ := h
    have hv := ub7 hT hz
    refine uk8 (v := a.eval y) (w' := E.w) ?_ (hK E _ (.refl E) hH .refl hv)
    generalize hu : a.eval y = u at hv
    unfold isLive at hlive
    split at hlive <;> try (simp at hlive; done)
    · cases hv; simp [execOp, ho, hu]
    · cases hv; simp [execOp, ho, hu]
    · cases hv; simp [execOp, ho, hu]
  · next op t p q t' ho =>
    split at h <;> try (simp at h; done)
    next y z hy hz =>
    cases hb : cbin P op t y z with
    | none => rw [hb] at h; simp at h
    | some r =>
    rw [hb] at h
    obtain ⟨h1, h2, h3⟩ := cbin_sound (P := P) (w := E.w) (xo := p) (yo := q) (ub7 hT hy) (ub7 hT hz) hb
    refine pureK (y := some r) h (v := toV r) (fun z' hz' => by cases hz'; exact un6 h3) ?_
    simp [execOp, ho, h1, h2]
  · next op t p ho =>
    split at h <;> try (simp at h; done)
    next y hy =>
    cases hb : cun op y with
    | none => rw [hb] at h; simp at h
    | some r =>
    rw [hb] at h
    obtain ⟨h2, h3⟩ := cun_sound (P := P) (w := E.w) (ub7 hT hy) hb
    refine pureK (y := some r) h (v := toV r) (fun z' hz' => by cases hz'; exact un6 h3) ?_
    simp [execOp, ho, h2]
  · next s d p ho =>
    split at h <;> try (simp at h; done)
    next y hy =>
    obtain ⟨E', r, h1, h2, h3, h4, h5⟩ := cconvert_sound hH (ub7 hT hy) h hfr
    exact uk8 (by simp only [execOp, ho]; exact run_v h1) (hK E' r h2 h3 h4 h5)
  · next f first captured ho =>
    split at h <;> simp only [Option.some.injEq, reduceCtorEq, Prod.mk.injEq] at h
    next y z hy hz =>
    obtain ⟨rfl, rfl, rfl⟩ := h
    obtain ⟨a1, a2⟩ := cvals_vrs hT hy
    obtain ⟨b1, b2⟩ := cvals_vrs hT hz
    refine uk8 (v := .func f (first.map a.eval) (captured.map a.eval)) (w' := E.w) ?_ (hK E _ (.refl E) hH .refl (.fn f y z _ _ a1 b1 a2 b2))
    simp [execOp, ho, Instr.makeFunc]
  · next t l c ho =>
    split at h <;> try (simp at h; done)
    next y z hy hz =>
    obtain ⟨E', r, h1, h2, h3, h4, h5⟩ := cmakeSlice_sound hH (ub7 hT hy) (ub7 hT hz) h hfr
    exact uk8 (by simp only [execOp, ho]; exact run_v h1) (hK E' r h2 h3 h4 h5)
  · next t p lo hi mx ho =>
    split at h <;> try (simp at h; done)
    next y l hh m hy hl hhi hm =>
    exact pureR h (fun z hz => cslice_sound hH (ub7 hT hy) (um9 hT hl) (um9 hT hhi) (um9 hT hm) hz) (by simp only [execOp, ho])
  · next t p f ho =>
    split at h <;> try (simp at h; done)
    next y hy =>
    exact pureR h (fun z hz => cfieldAddr_sound (ub7 hT hy) hz) (by simp only [execOp, ho])
  · next t p f ho =>
    split at h <;> try (simp at h; done)
    next y hy =>
    exact pureR h (fun z hz => cfield_sound (ub7 hT hy) hz) (by simp only [execOp, ho])
  · next t p i ho =>
    split at h <;> try (simp at h; done)
    next y z hy hz =>
    exact pureR h (fun z' hz' => cindexAddr_sound (ub7 hT hy) (ub7 hT hz) hz') (by simp only [execOp, ho])
  · next t p i ho =>
    split at h <;> try (simp at h; done)
    next y z hy hz =>
    exact pureR h (fun z' hz' => cindex_sound (ub7 hT hy) (ub7 hT hz) hz') (by simp only [execOp, ho])
  · next p i ho =>
    split at h <;> try (simp at h; done)
    next vs hy =>
    have hv := ub7 hT hy
    generalize hu : a.eval p = u at hv
    cases hv with
    | tup _ us g1 g2 =>
    refine pureR h (s := Instr.extract (.tuple us) i) (fun z hz => ?_) (by simp only [execOp, ho, hu])
    obtain ⟨v, hv⟩ := uk1 hz g1
    exact ⟨v, by simp [Instr.extract, hv], g2 i z v hz hv⟩
  · next c ho => exact ccall_sound hS ho hH hKy hT h hfr hL hK
  · simp at h

end
end Go.Cn
end
noncomputable section
namespace Go.Cn

section
variable {P : Program}

theorem cappend_keeps {argTypes : Array TypeId} {s y x : CV} {H H' : ua8} {n n' lo : Nat} (h : cappend P argTypes s y H n lo = some (x, H', n')) : ug7 H H' n n' lo := by
  unfold cappend at h
  split at h <;> try (simp at h; done)
  split at h <;> try (simp at h; done)
  split at h <;> try (simp at h; done)
  split at h <;> try (simp at h; done)
  split at h <;> try (simp at h; done)
  split at h
  · split at h <;> simp only [Option.some.injEq, reduceCtorEq, Prod.mk.injEq] at h <;> (obtain ⟨rfl, rfl, rfl⟩ := h; exact .refl)
  · split at h <;> try (simp at h; done)
    split at h <;> try (simp at h; done)
    split at h
    · split at h <;> try (simp at h; done)
      split at h <;> simp only [Option.some.injEq, reduceCtorEq, Prod.mk.injEq] at h
      obtain ⟨rfl, rfl, rfl⟩ := h; exact .new
    · split at h <;> try (simp at h; done)
      split at h <;> try (simp at h; done)
      split at h
      · split at h
        · split at h <;> simp only [Option.some.injEq, reduceCtorEq, Prod.mk.injEq] at h
          next hc =>
          simp only [Bool.and_eq_true] at hc
          obtain ⟨rfl, rfl, rfl⟩ := h; exact .set (Nat.le_of_ble_eq_true hc.1.1)
        · split at h <;> simp only [Option.some.injEq, reduceCtorEq, Prod.mk.injEq] at h
          obtain ⟨rfl, rfl, rfl⟩ := h; exact .new
      · split at h <;> simp only [Option.some.injEq, reduceCtorEq, Prod.mk.injEq] at h
        next hc =>
        simp only [Bool.and_eq_true] at hc
        obtain ⟨rfl, rfl, rfl⟩ := h; exact .del (Nat.le_of_ble_eq_true hc.1.1.1)
    · simp at h

theorem ccopy_keeps {argTypes : Array TypeId} {s y x : CV} {H H' : ua8} {n n' lo : Nat} (h : ccopy P argTypes s y H n lo = some (x, H', n')) : ug7 H H' n n' lo := by
  unfold ccopy at h
  split at h <;> try (simp at h; done)
  split at h <;> try (simp at h; done)
  split at h <;> try (simp at h; done)
  split at h <;> try (simp at h; done)
  · split at h <;> simp only [Option.some.injEq, reduceCtorEq, Prod.mk.injEq] at h
    obtain ⟨rfl, rfl, rfl⟩ := h; exact .refl
  · split at h <;> try (simp at h; done)
    split at h <;> try (simp at h; done)
    split at h <;> simp only [Option.some.injEq, reduceCtorEq, Prod.mk.injEq] at h
    next hc =>
    simp only [Bool.and_eq_true] at hc
    obtain ⟨rfl, rfl, rfl⟩ := h; exact .set (Nat.le_of_ble_eq_true hc.1.1)

theorem cop_keeps {call : Call} (hS : ue5 P call) {op : Op} {tm : CTm} {H H' : ua8} {n n' lo : Nat} {x : CV} (h : cop P call op tm H n lo = some (x, H', n')) : ug7 H H' n n' lo := by
  have pureK : ∀ {y : Option CV}, (match y with | some v => some (v, H, n) | none => none) = some (x, H', n') → ug7 H H' n n' lo := by
    intro y hy
    cases y with
    | none => simp at hy
    | some z => simp only [Option.some.injEq, Prod.mk.injEq] at hy; obtain ⟨rfl, rfl, rfl⟩ := hy; exact .refl
  unfold cop at h
  split at h
  · exact pureK h
  · exact pureK h
  · split at h <;> first | exact pureK h | (simp at h; done)
  · split at h <;> simp only [Option.some.injEq, reduceCtorEq, Prod.mk.injEq] at h
    obtain ⟨rfl, rfl, rfl⟩ := h; exact .new
  · split at h <;> simp only [Option.some.injEq, reduceCtorEq, Prod.mk.injEq] at h
    obtain ⟨rfl, rfl, rfl⟩ := h; exact .new
  · split at h <;> first | exact pureK h | (simp at h; done)
  · split at h <;> try (simp at h; done)
    unfold cbuildSlice at h
    split at h <;> try (simp at h; done)
    split at h <;> try (simp at h; done)
    split at h <;> try (simp at h; done)
    split at h <;> simp only [Option.some.injEq, reduceCtorEq, Prod.mk.injEq] at h
    obtain ⟨rfl, rfl, rfl⟩ := h; exact .new
  · split at h <;> first | exact pureK h | (simp at h; done)
  · split at h <;> try (simp at h; done)
    split at h <;> try (simp at h; done)
    split at h <;> simp only [Option.some.injEq, reduceCtorEq, Prod.mk.injEq] at h
    next hc =>
    simp only [Bool.and_eq_true] at hc
    obtain ⟨rfl, rfl, rfl⟩ := h; exact .set (Nat.le_of_ble_eq_true hc.1.1.1)
  · split at h <;> try (simp at h; done)
    split at h <;> simp only [Option.some.injEq, reduceCtorEq, Prod.mk.injEq] at h
    obtain ⟨rfl, rfl, rfl⟩ := h; exact .refl
  · split at h <;> first | exact pureK h | (simp at h; done)
  · split at h <;> first | exact pureK h | (simp at h; done)
  · split at h <;> try (simp at h; done)
    unfold cconvert at h
    split at h
    · simp only [Option.some.injEq, Prod.mk.injEq] at h; obtain ⟨rfl, rfl, rfl⟩ := h; exact .refl
    · simp only [Option.some.injEq, Prod.mk.injEq] at h; obtain ⟨rfl, rfl, rfl⟩ := h; exact .refl
    · split at h <;> try (simp at h; done)
      split at h <;> try (simp at h; done)
      split at h <;> simp only [Option.some.injEq, reduceCtorEq, Prod.mk.injEq] at h
      obtain ⟨rfl, rfl, rfl⟩ := h; exact .refl
    · split at h <;> try (simp at h; done)
      split at h <;> try (simp at h; done)
      split at h <;> try (simp at h; done)
      split at h <;> simp only [Option.some.injEq, reduceCtorEq, Prod.mk.injEq] at h
      obtain ⟨rfl, rfl, rfl⟩ := h; exact .refl
    · split at h <;> try (simp at h; done)
      simp only [Option.some.injEq, Prod.mk.injEq] at h; obtain ⟨rfl, rfl, rfl⟩ := h; exact .new
    · simp at h
  · split at h <;> simp only [Option.some.injEq, reduceCtorEq, Prod.mk.injEq] at h
    obtain ⟨rfl, rfl, rfl⟩ := h; exact .refl
  · split at h <;> try (simp at h; done)
    unfold cmakeSlice at h
    split at h <;> try (simp at h; done)
    split at h <;> try (simp at h; done)
    split at h <;> simp only [Option.some.injEq, reduceCtorEq, Prod.mk.injEq] at h
    obtain ⟨rfl, rfl, rfl⟩ := h; exact .new
  · split at h <;> first | exact pureK h | (simp at h; done)
  · split at h <;> first | exact pureK h | (simp at h; done)
  · split at h <;> first | exact pureK h | (simp at h; done)
  · split at h <;> first | exact pureK h | (simp at h; done)
  · split at h <;> first | exact pureK h | (simp at h; done)
  · split at h <;> first | exact pureK h | (simp at h; done)
  · unfold ccall at h
    split at h <;> try (simp at h; done)
    split at h
    · split at h <;> try (simp at h; done)
      exact (hS _ _ _ _ _ _ _ _ h).2.1
    · split at h <;> try (simp at h; done)
      split at h <;> simp only [Option.some.injEq, reduceCtorEq, Prod.mk.injEq] at h
      obtain ⟨rfl, rfl, rfl⟩ := h; exact .refl
    · split at h <;> try (simp at h; done)
      exact cappend_keeps h
    · split at h <;> try (simp at h; done)
      exact ccopy_keeps h
    · split at h <;> try (simp at h; done)
      split at h <;> simp only [Option.some.injEq, reduceCtorEq, Prod.mk.injEq] at h
      obtain ⟨rfl, rfl, rfl⟩ := h; exact .refl
    · split at h <;> try (simp at h; done)
      split at h <;> simp only [Option.some.injEq, reduceCtorEq, Prod.mk.injEq] at h
      obtain ⟨rfl, rfl, rfl⟩ := h; exact .refl
    · simp at h
  · simp at h

theorem uo6 {call : Call} (hS : ue5 P call) {N lo : Nat} {ops : Array Oper} : ∀ (rest : List Oper) (cs cs' : CS), cops P call N lo ops rest cs = some cs' → ug7 cs.H cs'.H cs.n cs'.n lo := by
  intro rest
  induction rest with
  | nil => intro cs cs' h; simp [cops] at h; subst h; exact .refl
  | cons o rest ih =>
    intro cs cs' h
    simp only [cops] at h
    split at h <;> try (simp at h; done)
    split at h
    · split at h <;> try (simp at h; done)
      next x H n hc => exact (cop_keeps hS hc).trans (ih _ _ h)
    · exact ih ⟨cput cs.tm o.dst (.tup []), cs.H, cs.n⟩ _ h
    · simp at h

/-- what is known of an operation: from this memory it comes to this value and this memory -/
def OpOk (P : Program) (o : Oper) (tm : CTm) (H : ua8) (n lo : Nat) (x : CV) (H' : ua8) (n' : Nat) : Prop :=
  ug7 H H' n n' lo ∧ ∀ (E : Env) (a : Act), HR E H → Keys H n → TR E tm a → Fr E n n' → ∀ (next : Act → World → Prop) (Q : Exit → Act → World → Prop), LetsGo Q →
    (∀ E' v, Ex E E' → HR E' H' → UB E E' n n' → VR E' x v → next (a.put o.dst v) E'.w) → o.wp P a E.w next Q

theorem ud5 {call : Call} (hS : ue5 P call) {o : Oper} {tm : CTm} {H H' : ua8} {n n' lo : Nat} {x : CV} (h : cop P call o.op tm H n lo = some (x, H', n')) : OpOk P o tm H n lo x H' n' :=
  ⟨cop_keeps hS h, fun _ _ h1 h2 h3 h4 _ _ hL hK => cop_sound hS h1 h2 h3 h h4 hL hK⟩

/-! ### one region -/
theorem put_getD {a : Act} {d t : Nat} {v : Value} (hd : d < a.tmps.size) : (a.put (some d) v).tmps.getD t undef = if d = t then v else a.tmps.getD t undef := by
  simp only [Act.put, Array.getD_eq_getD_getElem?]
  by_cases e : d = t
  · subst e
    simp [hd]
  · simp [Array.getElem?_setIfInBounds_ne e, e]

theorem tr_put {E : Env} {tm : CTm} {a : Act} {dst : Option Tmp} {x : CV} {v : Value} (hT : TR E tm a) (hd : isSmall a.tmps.size dst = true) (hv : VR E x v) : TR E (cput tm dst x) (a.put dst v) := by
  cases dst with
  | none => exact hT
  | some d =>
    intro t y hy
    have hlt : d < a.tmps.size := by simpa [isSmall, Nat.blt_eq] using hd
    rw [put_getD hlt]
    simp only [cput, uf1, uc7] at hy
    by_cases e : d = t
    · subst e; simp at hy; subst hy; simpa using hv
    · simp [e] at hy; rw [if_neg e]; exact hT t y hy

theorem put_size {a : Act} {dst : Option Tmp} {v : Value} : (a.put dst v).tmps.size = a.tmps.size := by
  cases dst <;> simp [Act.put]

theorem uk0 {a : Act} {dst : Option Tmp} {v : Value} : (a.put dst v).defers = a.defers := by
  cases dst <;> rfl

theorem vr_undef {E : Env} : VR E (.tup []) undef := .tup [] #[] rfl (fun i x v hx => by simp at hx)

theorem ud2 {E : Env} {tm : CTm} {a : Act} {ops : Array Oper} {o : Oper} {b : Bool} (hT : TR E tm a) (h : cwanted ops tm o.guard = some b) : Region.wanted o (yielded ops a.tmps) = b := by
  unfold cwanted at h
  unfold Region.wanted
  split at h
  · next hg => simp only [hg]; simpa using h
  · next j want hg =>
    simp only [hg]
    split at h
    · next ho => simp at h; subst h; simp [yielded, ho]
    · next p ho =>
      split at h
      · next hd => simp at h; subst h; simp [yielded, ho, hd]
      · next t hd =>
        split at h <;> simp only [Option.some.injEq, reduceCtorEq] at h
        · next c hc =>
          have hv := hT t _ hc
          generalize hu : a.tmps.getD t undef = u at hv
          cases hv
          have : a.tmps[t]? = some (.bool c) := by
            rw [Array.getD_eq_getD_getElem?] at hu
            cases hg' : a.tmps[t]? with
            | none => rw [hg'] at hu; simp [undef] at hu
            | some u => rw [hg'] at hu; simp at hu; rw [hu]
          simp only [yielded, ho, Option.bind_some, hd, this]
          subst h
          cases c <;> cases want <;> rfl
        · next vs hc =>
          have hv := hT t _ hc
          generalize hu : a.tmps.getD t undef = u at hv
          cases hv with
          | tup _ us _ _ =>
          have : yielded ops a.tmps j = none := by
            simp only [yielded, ho, Option.bind_some, hd]
            rw [Array.getD_eq_getD_getElem?] at hu
            cases hg' : a.tmps[t]? with
            | none => rfl
            | some u => rw [hg'] at hu; simp at hu; subst hu; rfl
          rw [this]; subst h; rfl

theorem cops_sound {call : Call} (hS : ue5 P call) {N lo : Nat} {ops : Array Oper} : ∀ (rest : List Oper) (k : Nat) (cs cs' : CS) (E : Env) (a : Act), ops.toList.drop k = rest → cops P call N lo ops rest cs = some cs' → Rel N E cs a →
    Fr E cs.n cs'.n → ∀ (Q : Exit → Act → World → Prop), LetsGo Q → (∀ E' a', Ex E E' → UB E E' cs.n cs'.n → Rel N E' cs' a' → Q .normal a' E'.w) → wpOps P ops Q (List.range' k rest.length) a E.w := by
  intro rest
  induction rest with
  | nil =>
    intro k cs cs' E a hd h hR hfr Q hL hK
    simp [cops] at h; subst h
    simp only [List.length_nil, List.range'_zero, wpOps]
    exact hK E a (.refl E) .refl hR
  | cons o rest ih =>
    intro k cs cs' E a hd h hR hfr Q hL hK
    have hkeep := uo6 hS _ _ _ h
    have ho : ops[k]? = some o := by
      have : (ops.toList.drop k)[0]? = some o := by rw [hd]; rfl
      rw [List.getElem?_drop] at this
      simpa using this
    have hd' : ops.toList.drop (k + 1) = rest := by
      have : (ops.toList.drop k).drop 1 = rest := by rw [hd]; rfl
      rw [List.drop_drop] at this
      exact this
    simp only [cops] at h
    split at h <;> try (simp at h; done)
    next hsm =>
    have hsm : isSmall a.tmps.size o.dst = true := by rw [hR.size]; exact hsm
    rw [List.length_cons, List.range'_succ]
    simp only [wpOps, ho]
    split at h
    · next hw =>
      rw [if_pos (ud2 hR.tmps hw)]
      split at h <;> try (simp at h; done)
      next x H n hc =>
      have hk1 := cop_keeps hS hc
      have hk2 := uo6 hS _ _ _ h
      have hfr1 : Fr E cs.n n := hfr.mono (Nat.le_refl _) hk2.1
      refine .inl (cop_sound hS hR.heap hR.keys hR.tmps hc hfr1 hL fun E' v hex hh hub hv => ?_)
      refine ih (k + 1) ⟨cput cs.tm o.dst x, H, n⟩ cs' E' (a.put o.dst v) hd' h ⟨hh, hk1.2.2 hR.keys, tr_put (fun t y hy => (hR.tmps t y hy).mono hex) hsm hv, by rw [put_size]; exact hR.size, by rw [uk0]; exact hR.defers⟩
        (hfr.next hub hk1.1) Q hL fun E'' a' hex' hub' hR' => hK E'' a' (hex.trans hex') (hub.trans hub' hk1.1 hk2.1) hR'
    · next hw =>
      rw [if_neg (by rw [ud2 hR.tmps hw]; simp)]
      exact ih (k + 1) ⟨cput cs.tm o.dst (.tup []), cs.H, cs.n⟩ cs' E (a.put o.dst undef) hd' h ⟨hR.heap, hR.keys, tr_put hR.tmps hsm vr_undef, by rw [put_size]; exact hR.size, by rw [uk0]; exact hR.defers⟩
        hfr Q hL hK
    · simp at h

end
end Go.Cn
end
noncomputable section
namespace Go.Cn

section
variable {P : Program}

/-- how a function that began in E0 ends. From n0 to top - 1: the numbers of its own blocks -/
def Fin (E0 : Env) (n0 top : Nat) (Q : CV → ua8 → Prop) (e : Ending) (w' : World) : Prop :=
  ∃ v x H' E', e = .returned v ∧ E'.w = w' ∧ Ex E0 E' ∧ HR E' H' ∧ UB E0 E' n0 top ∧ VR E' x v ∧ Q x H'

/-- from this list of things to do, in this canonical state, the function comes to its end, with Q -/
def Goes (P : Program) (f : FuncId) (N n0 top : Nat) (todo : List Item) (cs : CS) (Q : CV → ua8 → Prop) : Prop :=
  ∀ (E0 E : Env) (a : Act) (b : Frame) (callers : List Frame), b.fn = f → b.kind = .normal → Fr E0 n0 top → Ex E0 E → UB E0 E n0 top → Rel N E cs a → Fr E cs.n top →
    ∃ e w' fr, Fin E0 n0 top Q e w' ∧ Comes P (lone (b.at a todo) callers E.w) (lone fr callers w') e ∧ fr.fn = f ∧ fr.leaving P w' e

theorem ud6 {f : FuncId} {N n0 top : Nat} {todo todo' : List Item} {cs : CS} {Q : CV → ua8 → Prop} (hs : ∀ (E : Env) (a : Act) (b : Frame) (callers : List Frame), Rel N E cs a → step P (lone (b.at a todo) callers E.w) = .next (lone (b.at a todo') callers E.w))
    (h : Goes P f N n0 top todo' cs Q) : Goes P f N n0 top todo cs Q := by
  intro E0 E a b callers h1 h2 h3 h4 h5 h6 h7
  obtain ⟨e, w', fr, q1, q2, q3, q4⟩ := h E0 E a b callers h1 h2 h3 h4 h5 h6 h7
  exact ⟨e, w', fr, q1, Comes.of_steps (.one (hs E a b callers h6)) q2, q3, q4⟩

/-- a piece of code that takes the one canonical state to the other -/
def Takes (P : Program) (N : Nat) (c : Code) (cs cs' : CS) : Prop :=
  cs.n ≤ cs'.n ∧ ∀ (E : Env) (a : Act) (Q : Exit → Act → World → Prop), Rel N E cs a → Fr E cs.n cs'.n → LetsGo Q → (∀ E' a', Ex E E' → UB E E' cs.n cs'.n → Rel N E' cs' a' → Q .normal a' E'.w) → c.wp P Q a E.w

theorem uo0 {f : FuncId} {N n0 top : Nat} {c : Code} {k : List Item} {cs cs' : CS} {Q : CV → ua8 → Prop} (hc : Takes P N c cs cs') (hn : n0 ≤ cs.n) (ht : cs'.n ≤ top) (h : Goes P f N n0 top k cs' Q) :
    Goes P f N n0 top (.code c :: k) cs Q := by
  intro E0 E a b callers h1 h2 h3 h4 h5 h6 h7
  obtain ⟨hle, hc⟩ := hc
  have hw := hc E a (fun e a' w' => ∃ E', e = .normal ∧ E'.w = w' ∧ Ex E E' ∧ UB E E' cs.n cs'.n ∧ Rel N E' cs' a') h6 (h7.mono (Nat.le_refl _) ht) trivial (fun E' a' e1 e2 e3 => ⟨E', rfl, rfl, e1, e2, e3⟩) b k callers
  obtain ⟨e, a', w', hq, harr⟩ := hw
  obtain ⟨E', rfl, rfl, e1, e2, e3⟩ := hq
  · have hub : UB E0 E' n0 top := by
      intro j hj
      rcases e2 j hj with g | g
      · exact h5 j g
      · exact .inr ⟨by omega, by omega⟩
    obtain ⟨e, w', fr, q1, q2, q3, q4⟩ := h E0 E' a' b callers h1 h2 h3 (h4.trans e1) hub e3 (h7.next e2 hle)
    exact ⟨e, w', fr, q1, Comes.of_steps harr q2, q3, q4⟩

theorem cstep_region {call : Call} (hS : ue5 P call) {N lo id : Nat} {ops : Array Oper} {cs cs' : CS} (h : cops P call N lo ops ops.toList cs = some cs') : Takes P N (.region id ops false) cs cs' := by
  refine ⟨(uo6 hS _ _ _ h).1, fun E a Q hR hfr hL hK => wp_region ?_⟩
  have := cops_sound hS ops.toList 0 cs cs' E a rfl h hR hfr Q hL hK
  rwa [List.range_eq_range', ← Array.length_toList]

theorem cstep_keeps {call : Call} (hS : ue5 P call) {N lo : Nat} {todo todo' : List Item} {cs cs' : CS} (h : cstep P call N lo todo cs = some (todo', cs')) : ug7 cs.H cs'.H cs.n cs'.n lo := by
  unfold cstep at h
  split at h <;> try (simp only [Option.some.injEq, Prod.mk.injEq, reduceCtorEq] at h)
  all_goals try (obtain ⟨rfl, rfl⟩ := h; exact .refl)
  · split at h <;> try (simp at h; done)
    split at h <;> (simp only [Option.some.injEq, Prod.mk.injEq] at h; obtain ⟨rfl, rfl⟩ := h; exact .refl)
  · split at h <;> simp only [Option.some.injEq, Prod.mk.injEq, reduceCtorEq] at h
    obtain ⟨rfl, rfl⟩ := h; exact .refl
  · split at h <;> simp only [Option.some.injEq, Prod.mk.injEq, reduceCtorEq] at h
    obtain ⟨rfl, rfl⟩ := h; exact .refl
  · split at h <;> simp only [Option.some.injEq, Prod.mk.injEq, reduceCtorEq] at h
    next hc => obtain ⟨rfl, rfl⟩ := h; exact uo6 hS _ _ _ hc

theorem eval_bool {E : Env} {tm : CTm} {a : Act} {o : Operand} {b : Bool} (hT : TR E tm a) (h : cval tm o = some (.bool b)) : a.eval o = .bool b := by
  have hv := ub7 hT h
  generalize a.eval o = u at hv ⊢
  cases hv; rfl

theorem goes_cstep {call : Call} (hS : ue5 P call) {f : FuncId} {N lo n0 top : Nat} {todo todo' : List Item} {cs cs' : CS} {Q : CV → ua8 → Prop} (h : cstep P call N lo todo cs = some (todo', cs'))
    (hn : n0 ≤ cs.n) (ht : cs'.n ≤ top) (hg : Goes P f N n0 top todo' cs' Q) : Goes P f N n0 top todo cs Q := by
  unfold cstep at h
  split at h
  · simp only [Option.some.injEq, Prod.mk.injEq] at h; obtain ⟨rfl, rfl⟩ := h; exact ud6 (fun E a b cl hR => step_skip) hg
  · simp only [Option.some.injEq, Prod.mk.injEq] at h; obtain ⟨rfl, rfl⟩ := h; exact ud6 (fun E a b cl hR => step_label) hg
  · simp only [Option.some.injEq, Prod.mk.injEq] at h; obtain ⟨rfl, rfl⟩ := h; exact ud6 (fun E a b cl hR => step_inBlock) hg
  · simp only [Option.some.injEq, Prod.mk.injEq] at h; obtain ⟨rfl, rfl⟩ := h
    exact ud6 (fun E a b cl hR => step_lone_go (by simp [stepG, stepG.exec, Frame.at])) hg
  · simp only [Option.some.injEq, Prod.mk.injEq] at h; obtain ⟨rfl, rfl⟩ := h; exact ud6 (fun E a b cl hR => step_seq) hg
  · split at h <;> try (simp at h; done)
    next b hc =>
    cases b
    · simp only [Option.some.injEq, Prod.mk.injEq] at h; obtain ⟨rfl, rfl⟩ := h
      exact ud6 (fun E a b' cl hR => (step_cond (eval_bool hR.tmps hc)).trans rfl) hg
    · simp only [Option.some.injEq, Prod.mk.injEq] at h; obtain ⟨rfl, rfl⟩ := h
      exact ud6 (fun E a b' cl hR => (step_cond (eval_bool hR.tmps hc)).trans rfl) hg
  · simp only [Option.some.injEq, Prod.mk.injEq] at h; obtain ⟨rfl, rfl⟩ := h; exact ud6 (fun E a b cl hR => step_block) hg
  · simp only [Option.some.injEq, Prod.mk.injEq] at h; obtain ⟨rfl, rfl⟩ := h; exact ud6 (fun E a b cl hR => step_loop) hg
  · simp only [Option.some.injEq, Prod.mk.injEq] at h; obtain ⟨rfl, rfl⟩ := h; exact ud6 (fun E a b cl hR => step_inLoop) hg
  · simp only [Option.some.injEq, Prod.mk.injEq] at h; obtain ⟨rfl, rfl⟩ := h
    exact ud6 (fun E a b cl hR => step_lone_go (by simp [stepG, stepG.exec, Frame.at])) hg
  · split at h <;> simp only [Option.some.injEq, Prod.mk.injEq, reduceCtorEq] at h
    next k' hk => obtain ⟨rfl, rfl⟩ := h; exact ud6 (fun E a b cl hR => step_exit hk) hg
  · split at h <;> simp only [Option.some.injEq, Prod.mk.injEq, reduceCtorEq] at h
    next k' hk => obtain ⟨rfl, rfl⟩ := h; exact ud6 (fun E a b cl hR => step_goto hk) hg
  · split at h <;> simp only [Option.some.injEq, Prod.mk.injEq, reduceCtorEq] at h
    next hc => obtain ⟨rfl, rfl⟩ := h; exact uo0 (cstep_region hS hc) hn ht hg
  · simp at h

/-! ### the results -/
def resVal (tmps : Array Value) : ResultVar → Sem Value
  | .tmp t => pure (tmps.getD t undef)
  | .cell a t => do loadVar t (← asAddr (tmps.getD a undef))

theorem results_eq (fn : Func) (tmps : Array Value) : results fn tmps = (do let vs ← fn.results.mapM (resVal tmps); pure (if h : vs.size = 1 then vs[0] else .tuple vs)) := by
  unfold results
  congr 1

theorem up5 {E : Env} {H : ua8} (hH : HR E H) {tm : CTm} {a : Act} (hT : TR E tm a) : ∀ (l : List ResultVar) (xs : List CV), cresults tm P H l = some xs →
    ∃ vs : List Value, (l.mapM (resVal a.tmps)).run P E.w = .ok vs E.w ∧ vs.length = xs.length ∧ ∀ (i : Nat) x v, xs[i]? = some x → vs[i]? = some v → VR E x v := by
  intro l
  induction l with
  | nil => intro xs h; simp [cresults] at h; subst h; exact ⟨[], by simp, rfl, fun i x v hx => by simp at hx⟩
  | cons r l ih =>
    have key : ∀ (x : CV) (v : Value) (xs ys : List CV), VR E x v → xs = x :: ys → (resVal a.tmps r).run P E.w = .ok v E.w → cresults tm P H l = some ys →
        ∃ vs : List Value, ((r :: l).mapM (resVal a.tmps)).run P E.w = .ok vs E.w ∧ vs.length = xs.length ∧ ∀ (i : Nat) x v, xs[i]? = some x → vs[i]? = some v → VR E x v := by
      rintro x v xs ys hv rfl hr hys
      obtain ⟨vs, h1, h2, h3⟩ := ih ys hys
      refine ⟨v :: vs, by simp [List.mapM_cons, hr, h1], by simp [h2], fun i y u hy hu => ?_⟩
      cases i with
      | zero => simp at hy hu; subst hy; subst hu; exact hv
      | succ i => exact h3 i y u hy hu
    intro xs h
    cases r with
    | tmp t =>
      simp only [cresults] at h
      split at h <;> simp only [Option.some.injEq, reduceCtorEq] at h
      next x ys hx hys => exact key x _ xs ys (hT t x hx) h.symm (by simp [resVal]) hys
    | cell c t =>
      simp only [cresults] at h
      split at h <;> try (simp at h; done)
      next p hp =>
      split at h <;> simp only [Option.some.injEq, reduceCtorEq] at h
      next x ys hx hys =>
      have hpv := hT c p hp
      generalize hu : a.tmps.getD c undef = u at hpv
      obtain ⟨v, h1, h2⟩ := cload_sound (P := P) hH hpv hx
      refine key x v xs ys h2 h.symm ?_ hys
      simp only [resVal, hu]
      cases u <;> simp [Instr.loadAt, Instr.sureAddr, asAddr] at h1 ⊢
      next ad => cases ad <;> simp [Instr.sureAddr, asAddr] at h1 ⊢; exact h1

theorem cresult_sound {E : Env} {H : ua8} (hH : HR E H) {tm : CTm} {a : Act} (hT : TR E tm a) {fn : Func} {x : CV} (h : cresult tm P H fn = some x) : ∃ v, (results fn a.tmps).run P E.w = .ok v E.w ∧ VR E x v := by
  unfold cresult at h
  split at h
  · next y hy =>
    simp at h; subst h
    obtain ⟨vs, h1, h2, h3⟩ := up5 (P := P) hH hT _ _ hy
    obtain ⟨v, rfl⟩ : ∃ v, vs = [v] := by
      cases vs with
      | nil => simp at h2
      | cons v vs => cases vs with | nil => exact ⟨v, rfl⟩ | cons => simp at h2
    refine ⟨v, ?_, h3 0 y v rfl rfl⟩
    rw [results_eq, Array.mapM_eq_mapM_toList]
    simp [h1]
  · next ys hne hy =>
    simp at h; subst h
    obtain ⟨vs, h1, h2, h3⟩ := up5 (P := P) hH hT _ _ hy
    have hlen : vs.length ≠ 1 := by
      intro hl
      rw [h2] at hl
      match ys, hl with
      | [y], _ => exact hne y rfl
    refine ⟨.tuple vs.toArray, ?_, .tup _ _ (by simpa using h2) (fun i x v hx hv => h3 i x v hx (by simpa using hv))⟩
    rw [results_eq, Array.mapM_eq_mapM_toList]
    simp [h1, hlen]
  · simp at h

theorem goes_ret {f : FuncId} {fn : Func} (hf : P.funcs[f]? = some fn) {N n0 top : Nat} {todo : List Item} {cs : CS} {Q : CV → ua8 → Prop} {x : CV} (ht : cret todo = true) (hx : cresult cs.tm P cs.H fn = some x) (hq : Q x cs.H) :
    Goes P f N n0 top todo cs Q := by
  intro E0 E a b callers h1 h2 h3 h4 h5 h6 h7
  obtain ⟨v, hr, hv⟩ := cresult_sound (P := P) h6.heap h6.tmps hx
  unfold cret at ht
  split at ht
  · exact ⟨.returned v, E.w, _, ⟨v, x, cs.H, E, rfl, rfl, h4, h6.heap, h5, hv, hq⟩, .one step_end, h1, rfl, h6.defers, h2, fn, by rw [← h1] at hf; exact hf, hr⟩
  · exact ⟨.returned v, E.w, _, ⟨v, x, cs.H, E, rfl, rfl, h4, h6.heap, h5, hv, hq⟩, .one step_ret, h1, rfl, h6.defers, h2, fn, by rw [← h1] at hf; exact hf, hr⟩
  · simp at ht

/-! ### entering a function -/
def argTm : List CV → Nat → CTm → CTm
  | [], _, tm => tm
  | x :: xs, i, tm => argTm xs (i + 1) ((i, x) :: tm)

theorem argTm_get : ∀ (xs : List CV) (i : Nat) (tm : CTm) (t : Nat) (y : CV), tget (argTm xs i tm) t = some y → (i ≤ t ∧ xs[t - i]? = some y) ∨ (¬ (i ≤ t ∧ t < i + xs.length) ∧ tget tm t = some y)
  | [], i, tm, t, y, h => .inr ⟨by simp, h⟩
  | x :: xs, i, tm, t, y, h => by
    simp only [argTm] at h
    rcases argTm_get xs (i + 1) _ t y h with ⟨h1, h2⟩ | ⟨h1, h2⟩
    · refine .inl ⟨by omega, ?_⟩
      rw [show t - i = (t - (i + 1)) + 1 by omega]
      simpa using h2
    · simp only [uf1, uc7] at h2
      by_cases e : i = t
      · subst e
        simp at h2
        exact .inl ⟨Nat.le_refl _, by simp [h2]⟩
      · simp [e] at h2
        exact .inr ⟨by simp; omega, h2⟩

theorem uo4 {f : FuncId} {fn : Func} {c : Code} (hf : P.funcs[f]? = some fn) (hb : fn.body = some c) {args : List CV} {H : ua8} {n top : Nat} {Q : CV → ua8 → Prop} (hl : args.length ≤ fn.ntmps)
    (h : Goes P f fn.ntmps n top [.code c] ⟨argTm args 0 [], H, n⟩ Q) : HC P f args H n top Q := by
  intro E vs hfr hKy hH hv cs
  let b : Frame := { (default : Frame) with fn := f, kind := .normal }
  have henter : Frame.enter P f vs .normal = b.at { tmps := vs ++ Array.replicate (fn.ntmps - vs.size) undef, defers := [] } [.code c] := by
    simp [Frame.enter, Frame.at, hf, hb, b]
  have hR : Rel fn.ntmps E ⟨argTm args 0 [], H, n⟩ { tmps := vs ++ Array.replicate (fn.ntmps - vs.size) undef, defers := [] } := by
    refine ⟨hH, hKy, fun t x hx => ?_, by simp [hv.1]; omega, rfl⟩
    rcases argTm_get args 0 [] t x hx with ⟨_, h2⟩ | ⟨_, h2⟩
    · have hlt : t < args.length := by
        rcases Nat.lt_or_ge t args.length with h' | h'
        · exact h'
        · rw [List.getElem?_eq_none (by simpa using h')] at h2; simp at h2
      have hlt' : t < vs.size := by rw [hv.1]; exact hlt
      have : (vs ++ Array.replicate (fn.ntmps - vs.size) undef).getD t undef = vs[t] := by
        rw [Array.getD_eq_getD_getElem?, Array.getElem?_append_left hlt']
        simp [hlt']
      rw [this]
      exact hv.2 t x _ (by simpa using h2) (Array.getElem?_eq_getElem hlt')
    · simp [uf1, uc7] at h2
  obtain ⟨e, w', fr, q1, q2, q3, q4⟩ := h E E _ b cs rfl rfl hfr (.refl E) .refl hR hfr
  rw [← henter] at q2
  exact ⟨e, w', fr, q1, q2, q3, q4⟩

end
end Go.Cn
end
