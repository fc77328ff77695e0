/- The canonical calculus, part 3: what a canonical operation comes to, the model's operation comes to: the parts without calls. -/
import Derived.Test.YteokapmkfoogaaaGreatDoorCn2
import Derived.Laws.Sem
import Derived.Laws.Entries
set_option linter.unusedVariables false
set_option linter.unusedSimpArgs false
noncomputable section
namespace Go.Cn

theorem add_none (r o n : Nat) : (⟨r, o, none⟩ : Addr).add n = ⟨r, o + n, none⟩ := by
  unfold Addr.add; split
  · next h => subst h; rfl
  · rfl

/-! ### constants, operands -/
theorem ofScalar_sound {E : Env} {v : Value} {x : CV} (h : ofScalar v = some x) : VR E x v := by
  unfold ofScalar at h
  split at h <;> simp only [Option.some.injEq, reduceCtorEq] at h
  · subst h; exact .bool _
  · subst h; exact .int _ _
  · next s => subst h; exact .str s.data.toList
  · subst h; exact .nilptr
  · subst h
    refine .ro 1 [] (some 0) none 0 0 0 (fun _ _ => undef) (Nat.le_refl _) (fun c hc => Option.some.inj hc) (fun h => absurd rfl h) (fun c hc => by simp at hc) (fun i j c x hx => by simp at hx) (fun i j c x hx => by simp at hx)
  · subst h; exact .nilfn

theorem ofScalars_sound {E : Env} : ∀ {vs : List Value} {xs : List CV}, ofScalars vs = some xs → vs.length = xs.length ∧ ∀ (i : Nat) x v, xs[i]? = some x → vs[i]? = some v → VR E x v
  | [], xs, h => by simp [ofScalars] at h; subst h; simp
  | v :: vs, xs, h => by
    simp only [ofScalars] at h
    split at h <;> simp only [Option.some.injEq, reduceCtorEq] at h
    next x ys hx hys =>
      subst h
      obtain ⟨h1, h2⟩ := ofScalars_sound hys
      refine ⟨by simp [h1], fun i y u hy hu => ?_⟩
      cases i with
      | zero => simp at hy hu; subst hy; subst hu; exact ofScalar_sound hx
      | succ i => simp at hy hu; exact h2 i y u hy hu

theorem ofValue_sound {E : Env} {v : Value} {x : CV} (h : ofValue v = some x) : VR E x v := by
  unfold ofValue at h
  split at h
  · next cs =>
    split at h <;> simp only [Option.some.injEq, reduceCtorEq] at h
    next xs hxs =>
      subst h
      obtain ⟨h1, h2⟩ := ofScalars_sound (E := E) hxs
      exact .agg xs cs (by simpa using h1) fun i x v hx hv => h2 i x v hx (by simpa using hv)
  · next cs =>
    split at h <;> simp only [Option.some.injEq, reduceCtorEq] at h
    next xs hxs =>
      subst h
      obtain ⟨h1, h2⟩ := ofScalars_sound (E := E) hxs
      exact .tup xs cs (by simpa using h1) fun i x v hx hv => h2 i x v hx (by simpa using hv)
  · exact ofScalar_sound h

def TR (E : Env) (tm : CTm) (a : Act) : Prop := ∀ t x, tget tm t = some x → VR E x (a.tmps.getD t undef)

theorem cval_sound {E : Env} {tm : CTm} {a : Act} (hT : TR E tm a) {o : Operand} {x : CV} (h : cval tm o = some x) : VR E x (a.eval o) := by
  cases o with
  | tmp t => exact hT t x h
  | const v => exact ofValue_sound h
  | global g => simp [cval] at h
  | func f => simp [cval] at h; subst h; exact .fn _ [] [] #[] #[] rfl rfl (fun i x v hx => by simp at hx) (fun i x v hx => by simp at hx)

theorem cvals_sound {E : Env} {tm : CTm} {a : Act} (hT : TR E tm a) : ∀ {os : List Operand} {xs : List CV}, cvals tm os = some xs →
    os.length = xs.length ∧ ∀ (i : Nat) x v, xs[i]? = some x → (os.map a.eval)[i]? = some v → VR E x v
  | [], xs, h => by simp [cvals] at h; subst h; simp
  | o :: os, xs, h => by
    simp only [cvals] at h
    split at h <;> simp only [Option.some.injEq, reduceCtorEq] at h
    next x ys hx hys =>
      subst h
      obtain ⟨h1, h2⟩ := cvals_sound hT hys
      refine ⟨by simp [h1], fun i y u hy hu => ?_⟩
      cases i with
      | zero => simp at hy hu; subst hy; subst hu; exact cval_sound hT hx
      | succ i => simp only [List.map_cons, List.getElem?_cons_succ] at hy hu; exact h2 i y u hy hu

theorem cvals_vrs {E : Env} {tm : CTm} {a : Act} (hT : TR E tm a) {os : Array Operand} {xs : List CV} (h : cvals tm os.toList = some xs) : VRs E xs (os.map a.eval) := by
  obtain ⟨h1, h2⟩ := cvals_sound hT h
  exact ⟨by simpa using h1, fun i x v hx hv => h2 i x v hx (by simpa using hv)⟩

theorem cells_sound {E : Env} {x : CV} {v : Value} (h : VR E x v) : v.cells.size = x.cells.length ∧ ∀ (j : Nat) y u, x.cells[j]? = some y → v.cells[j]? = some u → VR E y u := by
  have one : ∀ {x : CV} {v : Value}, VR E x v → (∀ (j : Nat) y u, [x][j]? = some y → #[v][j]? = some u → VR E y u) := by
    intro x v h j y u hy hu
    cases j with
    | zero => simp at hy hu; subst hy; subst hu; exact h
    | succ j => simp at hy
  cases h with
  | agg cs vs h1 h2 => exact ⟨h1, h2⟩
  | bool b => exact ⟨rfl, one (.bool b)⟩
  | int k n => exact ⟨rfl, one (.int k n)⟩
  | str s => exact ⟨rfl, one (.str s)⟩
  | ptr b off ad h1 h2 => exact ⟨rfl, one (.ptr b off ad h1 h2)⟩
  | nilptr => exact ⟨rfl, one .nilptr⟩
  | rop cells off r base vs h1 h2 h3 => exact ⟨rfl, one (.rop cells off r base vs h1 h2 h3)⟩
  | slice sz b off len cap ad cap' h1 h2 h3 h4 => exact ⟨rfl, one (.slice sz b off len cap ad cap' h1 h2 h3 h4)⟩
  | ro sz xs cap a cap' r o vs h1 h2 h3 h4 h5 h6 => exact ⟨rfl, one (.ro sz xs cap a cap' r o vs h1 h2 h3 h4 h5 h6)⟩
  | fn f first captured fs cs h1 h2 h3 h4 => exact ⟨rfl, one (.fn f first captured fs cs h1 h2 h3 h4)⟩
  | nilfn => exact ⟨rfl, one .nilfn⟩
  | tup cs vs h1 h2 => exact ⟨rfl, one (.tup cs vs h1 h2)⟩

/-! ### types -/
section types
variable {P : Program} (w : World)

theorem run_typeInfo' {t : TypeId} {i : TypeInfo} (h : P.info? t = some i) : (typeInfo t).run P w = .ok i w := by
  simp [typeInfo, h]

theorem run_sizeOf' {t : TypeId} {s : Nat} (h : tsize P t = some s) : (sizeOf t).run P w = .ok s w := by
  unfold tsize at h
  split at h <;> simp only [Option.some.injEq, reduceCtorEq] at h
  next i hi => simp [sizeOf, run_typeInfo' w hi, h]

theorem run_isAgg {t : TypeId} {b : Bool} (h : aggT P t = some b) : (isAgg t).run P w = .ok b w := by
  unfold aggT at h
  split at h <;> simp only [Option.some.injEq, reduceCtorEq] at h
  · next fs hu => subst h; simp [isAgg, run_underlying hu]
  · next n e hu => subst h; simp [isAgg, run_underlying hu]
  · next d hu h1 h2 => 
    subst h
    simp only [isAgg, Sem.run_bind, run_underlying h2, Result.andThen_ok]
    rfl

theorem run_zeroValue {t : TypeId} {z : List CV} (h : czero P t = some z) : ∃ v, (zeroValue t).run P w = .ok v w ∧ ofScalars v.cells.toList = some z := by
  unfold czero at h
  split at h
  · next i hi =>
    split at h
    · next v hv => exact ⟨v, by simp [zeroValue, run_typeInfo' w hi, hv], h⟩
    · simp at h
  · simp at h

end types

/-! ### reading cells -/
theorem run_loadCellsFrom {P : Program} {w : World} {ad : Addr} {vs : Nat → Value} (n : Nat) : ∀ (i : Nat) (acc : Array Value), (∀ j, i ≤ j → j < i + n → w.cell? (ad.add j) = some (vs j)) →
    (loadCellsFrom ad i n acc).run P w = .ok (acc ++ ((List.range n).map fun j => vs (i + j)).toArray) w := by
  induction n with
  | zero => intro i acc _; simp [loadCellsFrom]
  | succ n ih =>
    intro i acc h
    have h0 := h i (Nat.le_refl _) (by omega)
    simp only [loadCellsFrom, Sem.run_bind, run_load, h0, Result.andThen_ok]
    rw [ih (i + 1) (acc.push (vs i)) (fun j h1 h2 => h j (by omega) (by omega))]
    congr 1
    apply Array.ext'
    simp [List.range_succ_eq_map, List.map_map, Function.comp_def, Nat.add_assoc, Nat.add_comm 1]

theorem run_loadCells {P : Program} {w : World} {ad : Addr} {vs : Nat → Value} (n : Nat) (h : ∀ j, j < n → w.cell? (ad.add j) = some (vs j)) :
    (loadCells ad n).run P w = .ok ((List.range n).map vs).toArray w := by
  unfold loadCells
  rw [run_loadCellsFrom n 0 #[] (fun j _ h2 => h j (by omega))]
  simp

/-- a row of canonical cells lies in the world at ⟨r, base⟩ -/
def Lies (E : Env) (cells : List CV) (r base : Nat) : Prop :=
  ∃ vs : Nat → Value, (∀ (j : Nat) x, cells[j]? = some x → E.w.cell? ⟨r, base + j, none⟩ = some (vs j)) ∧ ∀ (j : Nat) x, cells[j]? = some x → VR E x (vs j)

theorem lies_of_br {E : Env} {blk : List CV} {r : Nat} (h : BR E blk r) : Lies E blk r 0 := by
  obtain ⟨c, el, lo, hi, hc, _, hs, hx⟩ := h
  refine ⟨fun j => c.getD j undef, fun j x hj => ?_, fun j x hj => ?_⟩
  · have hl : j < blk.length := by
      rcases Nat.lt_or_ge j blk.length with h | h
      · exact h
      · rw [List.getElem?_eq_none h] at hj; simp at hj
    have : j < c.size := by omega
    simp [World.cell?, hc, this]
  · have hl : j < blk.length := by
      rcases Nat.lt_or_ge j blk.length with h | h
      · exact h
      · rw [List.getElem?_eq_none h] at hj; simp at hj
    have : j < c.size := by omega
    refine hx j x _ hj ?_
    simp [this]

theorem lies_drop {E : Env} {cells : List CV} {r base : Nat} (k : Nat) (h : Lies E cells r base) : Lies E (cells.drop k) r (base + k) := by
  obtain ⟨vs, h1, h2⟩ := h
  refine ⟨fun j => vs (k + j), fun j x hj => ?_, fun j x hj => ?_⟩
  · rw [List.getElem?_drop] at hj
    have := h1 (k + j) x hj
    rwa [← Nat.add_assoc] at this
  · rw [List.getElem?_drop] at hj; exact h2 (k + j) x hj

theorem lies_take {E : Env} {cells : List CV} {r base : Nat} (k : Nat) (h : Lies E cells r base) : Lies E (cells.take k) r base := by
  obtain ⟨vs, h1, h2⟩ := h
  refine ⟨vs, fun j x hj => ?_, fun j x hj => ?_⟩ <;>
  · rw [List.getElem?_take] at hj
    split at hj
    · first | exact h1 j x hj | exact h2 j x hj
    · simp at hj

/-- all cells at once -/
theorem run_lies {P : Program} {E : Env} {cells : List CV} {r base : Nat} (h : Lies E cells r base) :
    ∃ vs : Array Value, (loadCells ⟨r, base, none⟩ cells.length).run P E.w = .ok vs E.w ∧ vs.size = cells.length ∧ ∀ (j : Nat) x v, cells[j]? = some x → vs[j]? = some v → VR E x v := by
  obtain ⟨vs, h1, h2⟩ := h
  refine ⟨_, run_loadCells (vs := vs) cells.length (fun j hj => ?_), by simp, fun j x v hx hv => ?_⟩
  · rw [add_none]; exact h1 j _ (List.getElem?_eq_getElem hj)
  · simp only [List.getElem?_toArray, List.getElem?_map] at hv
    have hj : j < cells.length := by
      rcases Nat.lt_or_ge j cells.length with h | h
      · exact h
      · rw [List.getElem?_eq_none h] at hx; simp at hx
    simp [List.getElem?_range hj] at hv
    subst hv
    exact h2 j x hx

theorem cpart_load {P : Program} {E : Env} {t : TypeId} {cells : List CV} {off r base : Nat} {x : CV} (hl : Lies E cells r base) (h : cpart P t cells off = some x) :
    ∃ v, (loadVar t ⟨r, base + off, none⟩).run P E.w = .ok v E.w ∧ VR E x v := by
  unfold cpart at h
  split at h
  · next ha =>
    split at h <;> try (simp at h; done)
    next s hs =>
    split at h <;> simp only [Option.some.injEq, reduceCtorEq] at h
    next hle =>
    subst h
    have hle' : off + s ≤ cells.length := Nat.le_of_ble_eq_true hle
    obtain ⟨vs, h1, h2, h3⟩ := run_lies (P := P) (lies_take s (lies_drop off hl))
    have hlen : ((cells.drop off).take s).length = s := by simp; omega
    rw [hlen] at h1 h2
    exact ⟨.agg vs, by simp [loadVar, run_isAgg _ ha, run_sizeOf' _ hs, h1], .agg _ _ (by rw [hlen]; exact h2) h3⟩
  · next ha =>
    obtain ⟨vs, h1, h2⟩ := hl
    exact ⟨vs off, by simp [loadVar, run_isAgg _ ha, h1 off x h], h2 off x h⟩
  · simp at h

theorem cload_sound {P : Program} {E : Env} {H : CHeap} (hH : HR E H) {t : TypeId} {p x : CV} {v : Value} (hv : VR E p v) (h : cload P t p H = some x) :
    ∃ u, (Instr.loadAt t v).run P E.w = .ok u E.w ∧ VR E x u := by
  unfold cload at h
  split at h
  · next b off =>
    split at h
    · next blk hg =>
      obtain ⟨r, hr, hbr⟩ := hH.get b blk hg
      cases hv with
      | ptr _ _ ad h1 h2 =>
        obtain rfl := h2 r hr
        obtain ⟨u, h3, h4⟩ := cpart_load (lies_of_br hbr) h
        rw [Nat.zero_add] at h3
        exact ⟨u, by simp [Instr.loadAt, Instr.sureAddr, h3], h4⟩
    · simp at h
  · next cells off =>
    cases hv with
    | rop _ _ r base vs hI h1 h2 =>
      obtain ⟨u, h3, h4⟩ := cpart_load ⟨vs, h1, h2⟩ h
      exact ⟨u, by simp [Instr.loadAt, Instr.sureAddr, h3], h4⟩
  · simp at h

theorem cpart_part {P : Program} {E : Env} {w : World} {t : TypeId} {cells : List CV} {vs : Array Value} {off : Nat} {x : CV} (hs : vs.size = cells.length)
    (hv : ∀ (j : Nat) y u, cells[j]? = some y → vs[j]? = some u → VR E y u) (h : cpart P t cells off = some x) : ∃ v, (part t vs off).run P w = .ok v w ∧ VR E x v := by
  unfold cpart at h
  split at h
  · next ha =>
    split at h <;> try (simp at h; done)
    next s hsz =>
    split at h <;> simp only [Option.some.injEq, reduceCtorEq] at h
    next hle =>
    subst h
    have hle' : off + s ≤ cells.length := Nat.le_of_ble_eq_true hle
    refine ⟨.agg (vs.extract off (off + s)), by simp [part, run_isAgg _ ha, run_sizeOf' _ hsz], .agg _ _ (by simp; omega) fun j y u hy hu => ?_⟩
    rw [List.getElem?_take] at hy
    split at hy <;> try (simp at hy; done)
    rw [List.getElem?_drop] at hy
    rw [Array.getElem?_extract] at hu
    split at hu <;> try (simp at hu; done)
    exact hv (off + j) y u hy hu
  · next ha =>
    have hj : off < cells.length := by
      rcases Nat.lt_or_ge off cells.length with h' | h'
      · exact h'
      · rw [List.getElem?_eq_none h'] at h; simp at h
    have hj' : off < vs.size := by omega
    refine ⟨vs[off], by simp [part, run_isAgg _ ha, Array.getElem?_eq_getElem hj'], hv off x _ h (Array.getElem?_eq_getElem hj')⟩
  · simp at h

/-! ### writing cells -/
theorem cell_of_hget {E : Env} {H : CHeap} (hH : HR E H) {b r : Nat} {blk : List CV} (hg : hget H b = some blk) (hr : E.ρ b = some r) {o : Nat} (ho : o < blk.length) :
    (∃ v, E.w.cell? ⟨r, o, none⟩ = some v) ∧ E.w.frozen? ⟨r, o, none⟩ = false := by
  obtain ⟨r', hr', c, el, lo, hi, hc, hf, hs, hx⟩ := hH.get b blk hg
  obtain rfl : r' = r := by rw [hr] at hr'; exact (Option.some.inj hr').symm
  have : o < c.size := by omega
  refine ⟨⟨c[o], by simp [World.cell?, hc, this]⟩, ?_⟩
  simp only [World.frozen?, hc]
  simp
  omega

theorem scalar_oneCell {E : Env} {x : CV} {v : Value} (h : VR E x v) (hs : Scalar x = true) : v.oneCell' = true := by
  cases h <;> first | rfl | simp [Scalar] at hs

theorem storeCells_sound {P : Program} (xs : List CV) : ∀ {E : Env} {H : CHeap} {b r o i : Nat} {blk : List CV} {vs : List Value}, HR E H → hget H b = some blk → E.ρ b = some r → o + i + xs.length ≤ blk.length →
    vs.length = xs.length → (∀ (j : Nat) x v, xs[j]? = some x → vs[j]? = some v → VR E x v) → xs.all Scalar = true →
    ∃ E', (storeCells ⟨r, o, none⟩ vs i).run P E.w = .ok () E'.w ∧ Ex E E' ∧ HR E' (hset H b (putCells blk (o + i) xs)) ∧ E'.L = E.L ∧ E'.ρ = E.ρ ∧ E'.I = E.I := by
  induction xs with
  | nil =>
    intro E H b r o i blk vs hH hg hr _ hl _ _
    have : vs = [] := by simpa using hl
    subst this
    refine ⟨E, by simp [storeCells], .refl E, ?_, rfl, rfl, rfl⟩
    refine hH.sub fun b' blk' hb' => ?_
    rw [hget_hset] at hb'
    split at hb'
    · next e => subst e; rw [hg] at hb' ⊢; simpa [putCells] using hb'
    · exact hb'
  | cons x xs ih =>
    intro E H b r o i blk vs hH hg hr hle hl hv hsc
    cases vs with
    | nil => simp at hl
    | cons v vs =>
      simp only [List.length_cons] at hle hl
      have hxv : VR E x v := hv 0 x v rfl rfl
      have hs1 : Scalar x = true := by simp at hsc; exact hsc.1
      obtain ⟨⟨u, hu⟩, hfz⟩ := cell_of_hget hH hg hr (o := o + i) (by omega)
      have hH1 := set_hr (v := v) hH hg hr (o := o + i) (x := x) (by omega) hxv
      have hx1 := set_ex (o := o + i) (v := v) hH (hH.live b blk hg) hr
      have hg1 : hget (hset H b (blk.set (o + i) x)) b = some (blk.set (o + i) x) := by rw [hget_hset]; simp [hg]
      obtain ⟨E2, h1, h2, h3, h4, h5, h6⟩ := ih (E := E.set r (o + i) v) (o := o) (i := i + 1) (vs := vs) hH1 hg1 hr (by simp; omega) (by omega)
        (fun j y z hy hz => (hv (j + 1) y z (by simpa using hy) (by simpa using hz)).mono hx1) (by simp at hsc ⊢; exact hsc.2)
      refine ⟨E2, ?_, hx1.trans h2, ?_, h4, h5, h6⟩
      · simp only [storeCells, Sem.run_bind, add_none, run_store P E.w _ v _ (scalar_oneCell hxv hs1), hu, hfz]
        simp only [Bool.false_eq_true, if_false, Result.andThen_ok]
        exact h1
      · refine h3.sub fun b' blk' hb' => ?_
        rw [hget_hset] at hb' ⊢
        rw [hget_hset]
        split at hb'
        · next e => subst e; rw [hg] at hb'; simpa [hg, putCells, Nat.add_assoc] using hb'
        · next e => simpa [e] using hb'

end Go.Cn
