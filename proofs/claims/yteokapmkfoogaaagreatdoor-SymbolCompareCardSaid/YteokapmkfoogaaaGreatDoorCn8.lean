/- The canonical calculus, part 8: append and copy. -/
import Derived.Test.YteokapmkfoogaaaGreatDoorCn7
set_option linter.unusedVariables false
set_option linter.unusedSimpArgs false
noncomputable section
namespace Go.Cn

section
variable {P : Program}

theorem growBy_le (N : Nat) : ∀ (rounds c : Nat), c ≤ 2 * N + 192 → Builtin.growBy N rounds c ≤ 2 * N + 192 := by
  intro rounds
  induction rounds with
  | zero => intro c h; exact h
  | succ n ih =>
    intro c h
    simp only [Builtin.growBy]
    split
    · exact h
    · exact ih _ (by omega)

theorem next_le {N old : Nat} (h : old < N) : Builtin.nextslicecap N old ≤ 2 * N + 192 := by
  unfold Builtin.nextslicecap
  split
  · omega
  · split
    · omega
    · exact growBy_le N 4 old (by omega)

theorem next_bytes {N old by' : Nat} (h : old < N) (h1 : N * by' ≤ growBytes) (h2 : by' < 4294967296) : ¬ (Builtin.nextslicecap N old * by' > 2 ^ 48) := by
  have a := Nat.mul_le_mul_right by' (next_le h)
  have b : (2 * N + 192) * by' = 2 * (N * by') + 192 * by' := by rw [Nat.add_mul, Nat.mul_assoc]
  unfold growBytes at h1
  omega

theorem run_zeroValue' {t : TypeId} {z : List CV} (h : czero P t = some z) : ∃ v, (∀ w, (zeroValue t).run P w = .ok v w) ∧ v.cells.size = z.length ∧ ∀ (E : Env) (j : Nat) x u, z[j]? = some x → v.cells[j]? = some u → VR E x u := by
  unfold czero at h
  split at h
  · next i hi =>
    split at h
    · next v hv =>
      refine ⟨v, fun w => by simp [zeroValue, run_typeInfo' w hi, hv], ?_, fun E j x u hx hu => ?_⟩
      · have := (ofScalars_sound (E := ⟨fun _ => none, fun _ => False, fun _ => False, default⟩) h).1
        simpa using this
      · exact (ofScalars_sound (E := E) h).2 j x u hx (by simpa using hu)
    · simp at h
  · simp at h

theorem run_bytes {t : TypeId} {b : Nat} (h : tbytes P t = some b) : ∃ i, (∀ w, (typeInfo t).run P w = .ok i w) ∧ i.bytes = b := by
  unfold tbytes at h
  split at h <;> simp only [Option.some.injEq, reduceCtorEq] at h
  next i hi => exact ⟨i, fun w => run_typeInfo' w hi, h⟩

theorem noZeros_cases {t : Option TypeId} (h : noZeros P t = true) : t = none ∨ ∃ xT d, t = some xT ∧ P.underlying xT = some d ∧ ∀ k, d ≠ .int k := by
  cases t with
  | none => exact .inl rfl
  | some xT =>
    simp only [noZeros] at h
    split at h <;> try (simp at h; done)
    next d hd hu => exact .inr ⟨xT, d, rfl, hu, fun k e => hd k e⟩

theorem run_append_room {E : Env} {argTypes : Array TypeId} {ty sT e sz : Nat} {u : Value} {base : Option Addr} {sLen sCap k : Nat} {nvs : Array Value} {w' : World} (h0 : argTypes[0]? = some sT)
    (h1 : P.underlying sT = some (.slice e)) (h2 : tsize P e = some sz) (h3 : noZeros P argTypes[1]? = true) (hl : (Builtin.lenOf u).run P E.w = .ok k E.w)
    (hn : sLen + k ≤ sCap) (hf : (Builtin.firstCells sz k u).run P E.w = .ok nvs E.w) (hst : ∀ a, base = some a → (storeCells (a.add (sLen * sz)) nvs.toList).run P E.w = .ok () w') (hst0 : base = none → w' = E.w) :
    (Builtin.append_ argTypes ty #[.slice base sLen sCap, u]).run P E.w = .ok (.slice base (sLen + k) sCap) w' := by
  unfold Builtin.append_
  rcases noZeros_cases h3 with h3' | ⟨xT, d, h3', hu, hd⟩
  · simp only [h0, h3', List.getElem?_toArray, List.getElem?_cons_zero, List.getElem?_cons_succ]
    simp only [Sem.run_bind, run_underlying h1, Result.andThen_ok, run_sizeOf' _ h2, Sem.run_pure, Bool.false_eq_true, if_false, hl, if_pos hn, Bool.not_false, if_true, hf]
    cases base with
    | none => simp [hst0 rfl]
    | some a => simp [hst a rfl]
  · simp only [h0, h3', List.getElem?_toArray, List.getElem?_cons_zero, List.getElem?_cons_succ]
    simp only [Sem.run_bind, run_underlying h1, Result.andThen_ok, run_sizeOf' _ h2, run_underlying hu]
    cases d with
    | int k => exact absurd rfl (hd k)
    | _ =>
      simp only [Sem.run_bind, Result.andThen_ok, Sem.run_pure, Bool.false_eq_true, if_false, hl, if_pos hn, Bool.not_false, if_true, hf]
      cases base with
      | none => simp [hst0 rfl]
      | some a => simp [hst a rfl]

theorem run_append_grow {E : Env} {argTypes : Array TypeId} {ty sT e sz by' : Nat} {z : List CV} {u : Value} {base : Option Addr} {sLen sCap k : Nat} {ovs nvs : Array Value} (h0 : argTypes[0]? = some sT)
    (h1 : P.underlying sT = some (.slice e)) (h2 : tsize P e = some sz) (h3 : noZeros P argTypes[1]? = true) (hb : tbytes P e = some by') (hz0 : czero P e = some z) (hzl : z.length = sz)
    (hb1 : by' ≠ 0) (hb2 : by' < 4294967296) (hl : (Builtin.lenOf u).run P E.w = .ok k E.w)
    (hn : sCap < sLen + k) (hgb : (sLen + k) * by' ≤ growBytes) (hf : (Builtin.firstCells sz k u).run P E.draw.w = .ok nvs E.draw.w) (hfo : (Builtin.firstCells sz sLen (.slice base sLen sCap)).run P E.draw.w = .ok ovs E.draw.w) :
    ∃ newCap rest, sLen + k ≤ newCap ∧ rest.size = (newCap - (sLen + k)) * sz ∧ (Builtin.append_ argTypes ty #[.slice base sLen sCap, u]).run P E.w =
      .ok (.slice (some ⟨E.w.heap.size, 0, none⟩) (sLen + k) newCap) { E.draw.w with heap := E.draw.w.heap.push (.cells (ovs ++ nvs ++ rest) e) } := by
  obtain ⟨i, hi, hib⟩ := run_bytes hb
  obtain ⟨zv, hzv, hzs, _⟩ := run_zeroValue' hz0
  have hnb := next_bytes hn hgb hb2
  have hint : ¬ (((sLen + k : Nat) : Int) > IntKind.i64.max ∧ (False ∨ i.bytes = 0)) := by
    rw [hib]; intro h; rcases h.2 with h | h
    · exact h
    · exact hb1 h
  let nc := sLen + k + (E.w.tape E.w.drawn (.appendCap (sLen + k) sCap e)) % (2 ^ 63 - (sLen + k))
  refine ⟨nc, Builtin.zeroCells zv.cells (nc - (sLen + k)), by omega, by simp [Builtin.zeroCells, hzs, hzl], ?_⟩
  unfold Builtin.append_
  have hnle : ¬ (sLen + k ≤ sCap) := by omega
  have hf' : (Builtin.firstCells sz k u).run P ⟨E.w.heap, E.w.tape, E.w.drawn + 1, E.w.os, E.w.output⟩ = .ok nvs ⟨E.w.heap, E.w.tape, E.w.drawn + 1, E.w.os, E.w.output⟩ := hf
  have hfo' : (Builtin.firstCells sz sLen (.slice base sLen sCap)).run P ⟨E.w.heap, E.w.tape, E.w.drawn + 1, E.w.os, E.w.output⟩ = .ok ovs ⟨E.w.heap, E.w.tape, E.w.drawn + 1, E.w.os, E.w.output⟩ := hfo
  rcases noZeros_cases h3 with h3' | ⟨xT, d, h3', hu, hd⟩
  · simp only [h0, h3', List.getElem?_toArray, List.getElem?_cons_zero, List.getElem?_cons_succ]
    simp only [Sem.run_bind, run_underlying h1, Result.andThen_ok, run_sizeOf' _ h2, Sem.run_pure, Bool.false_eq_true, if_false, hl, if_neg hnle, Bool.not_false, if_true]
    simp only [Bool.false_eq_true, hi, Sem.run_bind, Result.andThen_ok, Sem.run_ite, hib, hb1, false_or, or_self, and_false, if_false, hnb, run_choose, Question.forced, Question.cut, run_askRoom]
    simp only [hf', hfo', hzv, newRow, Env.draw, nc, Sem.run_bind, Result.andThen_ok, Sem.run_pure, run_newObj]
  · simp only [h0, h3', List.getElem?_toArray, List.getElem?_cons_zero, List.getElem?_cons_succ]
    simp only [Sem.run_bind, run_underlying h1, Result.andThen_ok, run_sizeOf' _ h2, run_underlying hu]
    cases d with
    | int k => exact absurd rfl (hd k)
    | _ =>
      simp only [Sem.run_bind, Result.andThen_ok, Sem.run_pure, Bool.false_eq_true, if_false, hl, if_neg hnle, Bool.not_false, if_true]
      simp only [Bool.false_eq_true, hi, Sem.run_bind, Result.andThen_ok, Sem.run_ite, hib, hb1, false_or, or_self, and_false, if_false, hnb, run_choose, Question.forced, Question.cut, run_askRoom]
      simp only [hf', hfo', hzv, newRow, Env.draw, nc, Sem.run_bind, Result.andThen_ok, Sem.run_pure, run_newObj]

/-- the world behind a growth -/
def Env.grown (E : Env) (k : Nat) (cells : Array Value) (e : TypeId) : Env := E.draw.alloc k (.cells cells e)

theorem size_append3 {ovs nvs rest : Array Value} : (ovs ++ nvs ++ rest).size = ovs.size + nvs.size + rest.size := by simp [Nat.add_assoc]

theorem grown_sound {E : Env} {H : CHeap} (hH : HR E H) {n : Nat} (hk : ¬ E.U n) {olds news : List CV} {ovs nvs rest : Array Value} {e sz len k newCap : Nat} (ho : ovs.size = olds.length)
    (hov : ∀ (j : Nat) x v, olds[j]? = some x → ovs[j]? = some v → VR E.draw x v) (hn : nvs.size = news.length) (hnv : ∀ (j : Nat) x v, news[j]? = some x → nvs[j]? = some v → VR E.draw x v)
    (hol : olds.length = len * sz) (hnl : news.length = k * sz) (hc : len + k ≤ newCap) (hr : rest.size = (newCap - (len + k)) * sz) :
    HR (E.grown n (ovs ++ nvs ++ rest) e) ((n, olds ++ news) :: H) ∧ Ex E (E.grown n (ovs ++ nvs ++ rest) e) ∧
      VR (E.grown n (ovs ++ nvs ++ rest) e) (.slice sz n 0 (len + k) none) (.slice (some ⟨E.w.heap.size, 0, none⟩) (len + k) newCap) := by
  have hd := draw_hr hH
  refine ⟨alloc_hr (E := E.draw) hd hk (by simp; omega) (fun j x v hx hv => ?_), (draw_ex E).trans (alloc_ex hd hk), ?_⟩
  · rw [List.getElem?_append] at hx
    split at hx
    · next hlt =>
      rw [Array.append_assoc, Array.getElem?_append_left (by omega)] at hv
      exact hov j x v hx hv
    · next hlt =>
      have hlt2 : j - olds.length < news.length := by
        rcases Nat.lt_or_ge (j - olds.length) news.length with h | h
        · exact h
        · rw [List.getElem?_eq_none h] at hx; simp at hx
      rw [Array.append_assoc, Array.getElem?_append_right (by omega), Array.getElem?_append_left (by omega), ho] at hv
      exact hnv _ x v hx hv
  · refine .slice _ _ _ _ _ _ _ (by simp [Env.U, Env.grown, Env.alloc, Env.draw]) (fun r hr' => ?_) hc (fun c hc => by simp at hc)
    simp [Env.grown, Env.alloc, Env.draw] at hr'
    subst hr'
    refine ⟨rfl, ?_⟩
    have : bsz (E.grown n (ovs ++ nvs ++ rest) e).w E.w.heap.size = (ovs ++ nvs ++ rest).size := by
      unfold bsz
      show (match (E.w.heap.push (.cells (ovs ++ nvs ++ rest) e))[E.w.heap.size]? with | some (.cells c _ _) => c.size | _ => 0) = _
      rw [Array.getElem?_push_size]
    rw [this, size_append3, ho, hn, hr, hol, hnl, ← Nat.add_mul, ← Nat.add_mul]
    exact Nat.le_of_eq (by rw [Nat.zero_add]; congr 1; omega)

theorem take_all {cells : List CV} {m : Nat} (h : cells.length = m) : cells.take m = cells := by subst h; simp

theorem oneCells {E : Env} {xs : List CV} {vs : Array Value} (hs : vs.size = xs.length) (h : ∀ (j : Nat) x v, xs[j]? = some x → vs[j]? = some v → VR E x v) (hx : xs.all Scalar = true) : vs.toList.all Value.oneCell' = true := by
  rw [List.all_eq_true]
  intro v hv
  obtain ⟨j, hj, rfl⟩ := List.getElem_of_mem hv
  have hj' : j < xs.length := by simpa [hs] using hj
  rw [List.all_eq_true] at hx
  exact scalar_oneCell (h j xs[j] _ (List.getElem?_eq_getElem hj') (by simp at hj; simp [Array.getElem?_eq_getElem hj])) (hx _ (List.getElem_mem hj'))

theorem put_length : ∀ (xs blk : List CV) (o : Nat), (putCells blk o xs).length = blk.length
  | [], _, _ => rfl
  | x :: xs, blk, o => by rw [putCells, put_length xs]; simp

theorem cappend_sound {E : Env} {H : CHeap} (hH : HR E H) {argTypes : Array TypeId} {ty : TypeId} {s y x : CV} {v u : Value} {H' : CHeap} {n n' lo : Nat} (hs : VR E s v) (hy : VR E y u)
    (h : cappend P argTypes s y H n lo = some (x, H', n')) (hfr : Fr E n n') : ∃ E' r, (Builtin.append_ argTypes ty #[v, u]).run P E.w = .ok r E'.w ∧ Ex E E' ∧ HR E' H' ∧ UB E E' n n' ∧ VR E' x r := by
  unfold cappend at h
  split at h <;> try (simp at h; done)
  next sT h0 =>
  split at h <;> try (simp at h; done)
  next e h1 =>
  split at h <;> try (simp at h; done)
  next sz by' ysz k cells z h2 hb hel hz =>
  split at h <;> try (simp at h; done)
  next hzl =>
  split at h <;> try (simp at h; done)
  next h3 =>
  have h3 : noZeros P argTypes[1]? = true := by simpa using h3
  have hzl : z.length = sz := by simpa using hzl
  obtain ⟨hl, hcl, hel'⟩ := celems_sound (P := P) hH hy hel
  split at h
  · -- nothing is appended
    next hk =>
    obtain rfl : k = 0 := by simpa using hk
    obtain ⟨nvs, hf, hfs, _⟩ := hel' sz 0 (Nat.le_refl _) (.inr rfl)
    have hnil : nvs.toList = [] := by
      have : nvs.size = 0 := by simpa using hfs
      simpa using this
    have key : ∀ base sLen sCap, v = .slice base sLen sCap → sLen ≤ sCap → (Builtin.append_ argTypes ty #[v, u]).run P E.w = .ok v E.w := by
      rintro base sLen sCap rfl hle
      have := run_append_room (ty := ty) (base := base) (sLen := sLen) (sCap := sCap) (w' := E.w) h0 h1 h2 h3 hl (by omega) hf (fun a _ => by rw [hnil]; simp [storeCells]) (fun _ => rfl)
      simpa using this
    split at h <;> simp only [Option.some.injEq, reduceCtorEq, Prod.mk.injEq] at h
    · obtain ⟨rfl, rfl, rfl⟩ := h
      cases hs with
      | slice _ _ _ _ _ ad cap' g1 g2 g3 g4 => exact ⟨E, _, key _ _ _ rfl g3, .refl E, hH, .refl, .slice _ _ _ _ _ ad cap' g1 g2 g3 g4⟩
    · obtain ⟨rfl, rfl, rfl⟩ := h
      cases hs with
      | ro _ _ _ a cap' r o vs g1 g2 g3 g4 g5 g6 => exact ⟨E, _, key _ _ _ rfl g1, .refl E, hH, .refl, .ro _ _ _ a cap' r o vs g1 g2 g3 g4 g5 g6⟩
  · next hk =>
    have hk : k ≠ 0 := by simpa using hk
    split at h <;> try (simp at h; done)
    next hys =>
    have hys : ysz = sz := by simpa using hys
    subst hys
    split at h <;> try (simp at h; done)
    next hbb =>
    simp only [Bool.or_eq_true, not_or, Nat.beq_eq_true_eq] at hbb
    have hb1 : by' ≠ 0 := by simpa using hbb.1
    have hb2 : by' < 4294967296 := by
      have := hbb.2
      rw [Nat.ble_eq] at this
      omega
    have htk : cells.take (k * ysz) = cells := take_all hcl
    split at h
    · -- onto what nobody writes
      next ssz xs cap =>
      split at h <;> try (simp at h; done)
      next c =>
      split at h <;> simp only [Option.some.injEq, reduceCtorEq, Prod.mk.injEq] at h
      next hcond =>
      obtain ⟨rfl, rfl, rfl⟩ := h
      simp only [Bool.or_eq_true, not_or, Nat.ble_eq, Bool.not_eq_true', Bool.not_eq_false, Bool.or_eq_true, Nat.beq_eq_true_eq] at hcond
      obtain ⟨⟨hc1, hc2⟩, hc3⟩ := hcond
      have hsv := hs.mono (draw_ex E)
      have hel0 : celems H (.ro ssz xs (some c)) = some (ssz, xs.length, xs.flatten) := rfl
      obtain ⟨hl0, hcl0, hel0'⟩ := celems_sound (P := P) (draw_hr hH) hsv hel0
      have hssz : ysz = ssz ∨ xs.length = 0 := by
        rcases hc2 with h | h
        · exact .inl (Nat.eq_of_beq_eq_true h).symm
        · exact .inr (by simpa using h)
      obtain ⟨ovs, hfo, hos, hov⟩ := hel0' ysz xs.length (Nat.le_refl _) hssz
      have hxl : xs.flatten.length = xs.length * ysz := by
        rcases hssz with h | h
        · rw [h]; exact hcl0
        · rw [hcl0, h]; simp
      obtain ⟨_, _, hel1⟩ := celems_sound (P := P) (draw_hr hH) (hy.mono (draw_ex E)) hel
      obtain ⟨nvs, hf, hfs, hnv⟩ := hel1 ysz k (Nat.le_refl _) (.inl rfl)
      rw [htk] at hnv
      rw [take_all hxl] at hov
      cases hs with
      | ro _ _ _ a cap' r o vs g1 g2 g3 g4 g5 g6 =>
      have := g2 c rfl
      subst this
      obtain ⟨newCap, rest, q1, q2, q3⟩ := run_append_grow (ty := ty) (base := a) (sLen := xs.length) (sCap := cap') h0 h1 h2 h3 hb hz hzl hb1 hb2 hl (by omega) hc3 hf hfo
      obtain ⟨p1, p2, p3⟩ := grown_sound hH (hfr n (Nat.le_refl _) (by omega)) (e := e) (rest := rest) (by rw [hos, hxl]) hov (by rw [hfs, hcl]) hnv hxl hcl q1 q2
      exact ⟨_, _, q3, p2, p1, alloc_ub (E := E.draw), p3⟩
    · next ssz b off len cap =>
      split at h <;> try (simp at h; done)
      next hcond =>
      simp only [Bool.or_eq_true, not_or, Bool.not_eq_true', Bool.not_eq_false, Nat.beq_eq_true_eq] at hcond
      obtain ⟨hssz, hgb⟩ := hcond
      have hgb := Nat.le_of_ble_eq_true hgb
      have hssz : ssz = ysz := by simpa using hssz
      subst hssz
      split at h <;> try (simp at h; done)
      next blk hg =>
      obtain ⟨r, hr, hbr⟩ := hH.get b blk hg
      have hbr' := hbr
      obtain ⟨c', el, lo, hi, hcc, hff, hss, hxx⟩ := hbr'
      cases hs with
      | slice _ _ _ _ _ ad cap' g1 g2 g3 g4 =>
      obtain ⟨rfl, hB⟩ := g2 r hr
      have hB' : bsz E.w r = c'.size := by simp [bsz, hcc]
      obtain ⟨nvs0, hf0, hfs0, hnv0⟩ := hel' ssz k (Nat.le_refl _) (.inl rfl)
      rw [htk] at hnv0
      obtain ⟨_, _, hel1⟩ := celems_sound (P := P) (draw_hr hH) (hy.mono (draw_ex E)) hel
      obtain ⟨nvs, hf, hfs, hnv⟩ := hel1 ssz k (Nat.le_refl _) (.inl rfl)
      rw [htk] at hnv
      have hsl : VR E (.slice ssz b off len cap) (.slice (some ⟨r, off, none⟩) len cap') := .slice _ _ _ _ _ _ _ g1 g2 g3 g4
      split at h
      · next c =>
        have := g4 c rfl
        subst this
        split at h
        · -- within the capacity
          next hle =>
          have hle := Nat.le_of_ble_eq_true hle
          split at h <;> simp only [Option.some.injEq, reduceCtorEq, Prod.mk.injEq] at h
          next hcond =>
          simp only [Bool.and_eq_true] at hcond
          obtain ⟨rfl, rfl, rfl⟩ := h
          have hle2 := Nat.le_of_ble_eq_true hcond.1.2
          have hmul : (len + k) * ssz = len * ssz + k * ssz := Nat.add_mul _ _ _
          obtain ⟨E', s1, s2, s3, s4, s5, s6⟩ := storeCells_sound (P := P) cells (i := 0) (o := off + len * ssz) hH hg hr (vs := nvs0.toList) (by omega) (by simp; omega)
            (fun j x v hx hv => hnv0 j x v hx (by simpa using hv)) hcond.2
          have hrun := run_append_room (ty := ty) (base := some ⟨r, off, none⟩) (sLen := len) (sCap := cap') (w' := E'.w) h0 h1 h2 h3 hl hle hf0 (fun a ha => by cases ha; rw [add_none]; exact s1) (fun h => by simp at h)
          refine ⟨E', _, hrun, s2, s3, .of_eq s5, .slice _ _ _ _ _ _ _ (s2.U g1) (fun r' hr' => ?_) (by omega) g4⟩
          rw [s5, hr] at hr'
          cases hr'
          exact ⟨rfl, Nat.le_trans hB (s2.sz r)⟩
        · next hle =>
          have hle : cap' < len + k := by
            rw [Bool.not_eq_true] at hle
            exact Nat.lt_of_not_le fun h => by rw [Nat.ble_eq_true_of_le h] at hle; simp at hle
          split at h <;> simp only [Option.some.injEq, reduceCtorEq, Prod.mk.injEq] at h
          next hle2 =>
          obtain ⟨rfl, rfl, rfl⟩ := h
          have hel0 : celems H (.slice ssz b off len (some cap')) = some (ssz, len, (blk.drop off).take (len * ssz)) := by simp only [celems, hg, hle2, if_true]
          obtain ⟨_, hcl0, hel0'⟩ := celems_sound (P := P) (draw_hr hH) (hsl.mono (draw_ex E)) hel0
          obtain ⟨ovs, hfo, hos, hov⟩ := hel0' ssz len (Nat.le_refl _) (.inl rfl)
          rw [take_all hcl0] at hov
          obtain ⟨newCap, rest, q1, q2, q3⟩ := run_append_grow (ty := ty) (base := some ⟨r, off, none⟩) (sLen := len) (sCap := cap') h0 h1 h2 h3 hb hz hzl hb1 hb2 hl hle hgb hf hfo
          obtain ⟨p1, p2, p3⟩ := grown_sound hH (hfr n (Nat.le_refl _) (by omega)) (e := e) (rest := rest) (by rw [hos, hcl0]) hov (by rw [hfs, hcl]) hnv hcl0 hcl q1 q2
          exact ⟨_, _, q3, p2, p1, alloc_ub (E := E.draw), p3⟩
      · -- the capacity is not known: the elder slice is given up
        split at h <;> simp only [Option.some.injEq, reduceCtorEq, Prod.mk.injEq] at h
        next hcond =>
        simp only [Bool.and_eq_true] at hcond
        obtain ⟨rfl, rfl, rfl⟩ := h
        have hoff : off = 0 := by simpa using hcond.1.1.2
        subst hoff
        have hle2 := Nat.le_of_ble_eq_true hcond.1.2
        have htl : (blk.take (len * ssz)).length = len * ssz := by simp; omega
        by_cases hle : len + k ≤ cap'
        · have hmul : (len + k) * ssz = len * ssz + k * ssz := Nat.add_mul _ _ _
          have hcs : (len + k) * ssz ≤ cap' * ssz := Nat.mul_le_mul_right ssz hle
          have hone := oneCells (E := E) (by rw [hfs0, hcl]) hnv0 hcond.2
          have hns : nvs0.toList.length = k * ssz := by simpa using hfs0
          obtain ⟨w', c1, t1, t2, t3, t4, t5, t6, t7, t8⟩ := run_storeRaw (P := P) (r := r) (o := len * ssz) nvs0.toList (i := 0) hcc hff (by rw [hns]; omega) hone
          rw [hns] at t6 t7
          have hrun := run_append_room (ty := ty) (base := some ⟨r, 0, none⟩) (sLen := len) (sCap := cap') (w' := w') h0 h1 h2 h3 hl hle hf0
            (fun a ha => by cases ha; rw [add_none, Nat.zero_add]; exact t1) (fun h => by simp at h)
          have hz2 : bsz E.w r ≤ bsz w' r := by simp [bsz, hcc, t4, t5]
          have hkn : ¬ E.U n := hfr n (Nat.le_refl _) (by omega)
          have hex := renew_ex (w' := w') hH hkn (hH.live b blk hg) hr t2 t3 hz2 t8
          have hnb : bsz w' r = c1.size := by simp [bsz, t4]
          refine ⟨E.renew n b r w', _, hrun, hex, renew_hr hH hkn (hH.live b blk hg) hr t2 t8 t3 t4 (by omega) (by simp; omega) (by omega) (fun j x v hx hv => ?_), renew_ub,
            .slice _ _ _ _ _ _ _ (by simp [Env.U, Env.renew]) (fun r' hr' => ?_) hle (fun c hc => by simp at hc)⟩
          · rw [List.getElem?_append, htl] at hx
            split at hx
            · next hlt =>
              rw [t6 j (.inl (by omega))] at hv
              rw [List.getElem?_take] at hx
              simp only [hlt, if_true] at hx
              exact hxx j x v hx hv
            · next hlt =>
              have hj2 : j - len * ssz < k * ssz := by
                rcases Nat.lt_or_ge (j - len * ssz) cells.length with h | h
                · omega
                · rw [List.getElem?_eq_none h] at hx; simp at hx
              have := t7 (j - len * ssz) hj2
              rw [show len * ssz + 0 + (j - len * ssz) = j by omega] at this
              rw [this] at hv
              exact hnv0 _ x v hx (by simpa using hv)
          · simp [Env.renew] at hr'
            subst hr'
            exact ⟨rfl, by rw [show (E.renew n b r w').w = w' from rfl, hnb]; omega⟩
        · have hel0 : celems H (.slice ssz b 0 len none) = some (ssz, len, (blk.drop 0).take (len * ssz)) := by
            simp only [celems, hg, Nat.zero_add, Nat.ble_eq_true_of_le hle2, if_true]
          rw [List.drop_zero] at hel0
          have hkx := (kill_ex E b).trans (draw_ex _)
          obtain ⟨_, hcl0, hel0'⟩ := celems_sound (P := P) (draw_hr hH) (hsl.mono (draw_ex E)) hel0
          obtain ⟨ovs, hfo, hos, hov⟩ := hel0' ssz len (Nat.le_refl _) (.inl rfl)
          rw [take_all hcl0] at hov
          obtain ⟨newCap, rest, q1, q2, q3⟩ := run_append_grow (ty := ty) (base := some ⟨r, 0, none⟩) (sLen := len) (sCap := cap') h0 h1 h2 h3 hb hz hzl hb1 hb2 hl (by omega) hgb hf hfo
          have hkd : Ex E.draw (E.kill b).draw := kill_ex E.draw b
          obtain ⟨p1, p2, p3⟩ := grown_sound (kill_hr hH b) (show ¬ (E.kill b).U n from hfr n (Nat.le_refl _) (by omega)) (e := e) (rest := rest) (by rw [hos, hcl0]) (fun j x v hx hv => (hov j x v hx hv).mono hkd) (by rw [hfs, hcl])
            (fun j x v hx hv => (hnv j x v hx hv).mono hkd) hcl0 hcl q1 q2
          exact ⟨_, _, q3, (kill_ex E b).trans p2, p1, alloc_ub (E := (E.kill b).draw), p3⟩
    · simp at h

end
end Go.Cn
