/- The canonical calculus, part 10: conversions, building, calls: every operation. -/
import Derived.Test.YteokapmkfoogaaaGreatDoorCn9
set_option linter.unusedVariables false
set_option linter.unusedSimpArgs false
noncomputable section
namespace Go.Cn

section
variable {P : Program}

theorem alloc_vr {E : Env} {k : Nat} {o : Obj} : VR (E.alloc k o) (.ptr k 0) (.pointer (some ⟨E.w.heap.size, 0, none⟩)) :=
  .ptr _ _ _ (by simp [Env.U, Env.alloc]) fun r hr => by simp [Env.alloc] at hr; rw [hr]

theorem u8s_sound {E : Env} : ∀ (cells : List CV) (s : List UInt8) (vs : List Value) (acc : ByteArray) (w : World), u8s cells = some s → vs.length = cells.length → (∀ (j : Nat) x v, cells[j]? = some x → vs[j]? = some v → VR E x v) →
    (forIn vs acc fun c s => (match c with
      | .int .u8 n => pure (ForInStep.yield (s.push (UInt8.ofNat n.toNat)))
      | _ => do
        stuck "bytesToString: byte expected"
        pure (ForInStep.yield s) : Sem (ForInStep ByteArray))).run P w = .ok ⟨⟨acc.data.toList ++ s⟩⟩ w := by
  intro cells
  induction cells with
  | nil =>
    intro s vs acc w h hl _
    have : vs = [] := by simpa using hl
    subst this
    simp [u8s] at h
    subst h
    simp
  | cons x cells ih =>
    intro s vs acc w h hl hv
    cases vs with
    | nil => simp at hl
    | cons v vs =>
      have hxv := hv 0 x v rfl rfl
      cases x <;> try (simp [u8s] at h; done)
      · next k n =>
        cases k <;> try (simp [u8s] at h; done)
        simp only [u8s] at h
        split at h <;> simp only [Option.some.injEq, reduceCtorEq] at h
        next l hl' =>
        subst h
        cases hxv
        rw [List.forIn_cons, Sem.run_bind]
        simp only [Sem.run_pure, Result.andThen_ok]
        rw [ih l vs _ w hl' (by simpa using hl) (fun j y u hy hu => hv (j + 1) y u hy hu)]
        simp [ByteArray.data_push]

theorem bytesToString_sound {E : Env} {a : Addr} {len cap : Nat} {cells : List CV} {s : List UInt8} {vs : Array Value} {w : World} (h : u8s cells = some s) (hf : (loadCells a len).run P w = .ok vs w) (hl : vs.size = cells.length)
    (hv : ∀ (j : Nat) x v, cells[j]? = some x → vs[j]? = some v → VR E x v) : (Conv.bytesToString (.slice (some a) len cap)).run P w = .ok (.string ⟨⟨s⟩⟩) w := by
  have := u8s_sound (P := P) (E := E) cells s vs.toList ByteArray.empty w h (by simpa using hl) (fun j x v hx hu => hv j x v hx (by simpa using hu))
  simp only [Conv.bytesToString, Sem.run_bind, hf, Result.andThen_ok]
  rw [← Array.forIn_toList]
  exact (congrArg (fun r => Result.andThen r fun a w' => Sem.run P (pure (Value.string a)) w') this).trans (by simp)

theorem run_markNew {w : World} {cells : Array Value} {e : TypeId} :
    (markStringish ⟨w.heap.size, 0, none⟩).run P { w with heap := w.heap.push (.cells cells e) } = .ok () { w with heap := w.heap.push (.cells cells e (cells.size, cells.size + 1)) } := by
  have hsh : World.shape? { w with heap := w.heap.push (.cells cells e) } w.heap.size = some (e, cells.size) := by
    simp [World.shape?]
  simp only [markStringish, Sem.run_bind, run_shape, hsh, Result.andThen_ok, run_freeze, World.freeze]
  simp only [Nat.one_ne_zero, if_false]
  congr 2
  apply Array.ext
  · simp
  · intro i h1 h2
    rw [Array.getElem_modify]
    by_cases hi : w.heap.size = i
    · subst hi; simp
    · simp at h1
      have : i < w.heap.size := by omega
      simp [hi, Array.getElem_push_lt this]

theorem cconvert_sound {E : Env} {H : CHeap} (hH : HR E H) {src dst : TypeId} {x z : CV} {v : Value} {H' : CHeap} {n n' : Nat} (hx : VR E x v) (h : cconvert P src dst x H n = some (z, H', n')) (hfr : Fr E n n') :
    ∃ E' r, (convert src dst v).run P E.w = .ok r E'.w ∧ Ex E E' ∧ HR E' H' ∧ UB E E' n n' ∧ VR E' z r := by
  unfold cconvert at h
  split at h
  · next d k k' a hs hd =>
    simp only [Option.some.injEq, Prod.mk.injEq] at h
    obtain ⟨rfl, rfl, rfl⟩ := h
    cases hx
    refine ⟨E, .int k (k.wrap a), ?_, .refl E, hH, .refl, .int _ _⟩
    simp [convert, run_underlying hs, run_underlying hd, Conv.intToInt]
  · next s hs hd =>
    simp only [Option.some.injEq, Prod.mk.injEq] at h
    obtain ⟨rfl, rfl, rfl⟩ := h
    refine ⟨E, v, ?_, .refl E, hH, .refl, hx⟩
    cases hx
    simp [convert, run_underlying hs, run_underlying hd]
  · next e sz xs cap hs hd =>
    split at h <;> try (simp at h; done)
    next he =>
    split at h <;> try (simp at h; done)
    next hcond =>
    split at h <;> simp only [Option.some.injEq, reduceCtorEq, Prod.mk.injEq] at h
    next s hu =>
    obtain ⟨rfl, rfl, rfl⟩ := h
    obtain ⟨hl, hcl, hel⟩ := celems_sound (P := P) (H := H) hH hx rfl
    have hsz : 1 = sz ∨ xs.length = 0 := by
      simp only [Bool.not_eq_true', Bool.not_eq_false, Bool.or_eq_true] at hcond
      rcases hcond with h | h
      · exact .inl (Nat.eq_of_beq_eq_true h).symm
      · exact .inr (by simpa using h)
    obtain ⟨vs, hf, hfs, hv⟩ := hel 1 xs.length (Nat.le_refl _) hsz
    cases hx with
    | ro _ _ _ a cap' r o vs' g1 g2 g3 g4 g5 g6 =>
    have hlen : xs.flatten.length = xs.length * 1 := by
      rcases hsz with h | h
      · rw [hcl, ← h]
      · rw [hcl, h]; simp
    rw [take_all hlen] at hv
    refine ⟨E, .string ⟨⟨s⟩⟩, ?_, .refl E, hH, .refl, .str _⟩
    cases a with
    | none =>
      have hnil : xs = [] := by
        rcases Decidable.em (xs = []) with h | h
        · exact h
        · have := (g3 h).1; simp at this
      subst hnil
      simp [u8s] at hu
      subst hu
      simp [convert, run_underlying hs, run_underlying hd, run_underlying he, Conv.bytesToString]
      rfl
    | some a =>
      have hf' : (loadCells a xs.length).run P E.w = .ok vs E.w := by simpa [Builtin.firstCells] using hf
      have := bytesToString_sound (P := P) (cap := cap') (E := E) hu hf' (by rw [hfs, hlen]) hv
      simp only [convert, Sem.run_bind, run_underlying hs, run_underlying hd, run_underlying he, Result.andThen_ok, this]
  · next e sz b off len cap hs hd =>
    split at h <;> try (simp at h; done)
    next he =>
    split at h <;> try (simp at h; done)
    next hcond =>
    split at h <;> try (simp at h; done)
    next sz' k cells hce =>
    split at h <;> simp only [Option.some.injEq, reduceCtorEq, Prod.mk.injEq] at h
    next s hu =>
    obtain ⟨rfl, rfl, rfl⟩ := h
    have hsz : sz = 1 := by simpa using hcond
    subst hsz
    obtain ⟨hl, hcl, hel⟩ := celems_sound (P := P) hH hx hce
    have hk : sz' = 1 ∧ k = len := by
      simp only [celems] at hce
      split at hce <;> try (simp at hce; done)
      split at hce <;> simp only [Option.some.injEq, reduceCtorEq, Prod.mk.injEq] at hce
      exact ⟨hce.1.symm, hce.2.1.symm⟩
    obtain ⟨rfl, rfl⟩ := hk
    obtain ⟨vs, hf, hfs, hv⟩ := hel 1 k (Nat.le_refl _) (.inl rfl)
    rw [take_all hcl] at hv
    cases hx with
    | slice _ _ _ _ _ ad cap' g1 g2 g3 g4 =>
    have hf' : (loadCells ad k).run P E.w = .ok vs E.w := by simpa [Builtin.firstCells] using hf
    have := bytesToString_sound (P := P) (cap := cap') (E := E) hu hf' (by rw [hfs, hcl]) hv
    exact ⟨E, .string ⟨⟨s⟩⟩, by simp only [convert, Sem.run_bind, run_underlying hs, run_underlying hd, run_underlying he, Result.andThen_ok, this], .refl E, hH, .refl, .str _⟩
  · next e s hs hd =>
    split at h <;> try (simp at h; done)
    next he =>
    simp only [Option.some.injEq, Prod.mk.injEq] at h
    obtain ⟨rfl, rfl, rfl⟩ := h
    cases hx
    have hsz : ByteArray.size ⟨⟨s⟩⟩ = s.length := by simp [ByteArray.size]
    let nc := s.length + (E.w.tape E.w.drawn (.appendCap s.length 0 e)) % (2 ^ 63 - s.length)
    let cells : Array Value := (⟨s⟩ : Array UInt8).map (fun b => Value.int .u8 b.toNat) ++ Array.replicate (nc - s.length) (.int .u8 0)
    have hcs : cells.size = nc := by simp [cells, nc]
    have hkn : ¬ E.draw.U n := hfr n (Nat.le_refl _) (by omega)
    refine ⟨E.draw.alloc n (.cells cells e (nc, nc + 1)), .slice (some ⟨E.w.heap.size, 0, none⟩) s.length nc, ?_, (draw_ex E).trans (alloc_ex (draw_hr hH) hkn), ?_, alloc_ub (E := E.draw), ?_⟩
    · simp only [convert, Sem.run_bind, run_underlying hs, run_underlying hd, run_underlying he, Result.andThen_ok, Conv.stringToBytes, hsz, run_choose, Question.forced, Question.cut, Bool.false_eq_true, if_false]
      simp only [newRow, Sem.run_bind, run_newObj, Result.andThen_ok, Sem.run_pure]
      have hm := run_markNew (P := P) (w := E.draw.w) (cells := cells) (e := e)
      rw [hcs] at hm
      exact (congrArg (fun r => Result.andThen r fun a_1 w' => Sem.run P (pure (Value.slice (some ⟨E.w.heap.size, 0, none⟩) s.length nc)) w') hm).trans (by simp; rfl)
    · refine alloc_hrF (draw_hr hH) hkn (.inr (by omega)) (by simp; omega) (fun j x v hj hv => ?_)
      have hjl : j < s.length := by
        rcases Nat.lt_or_ge j s.length with h | h
        · exact h
        · rw [List.getElem?_eq_none (by simpa using h)] at hj; simp at hj
      simp only [cells] at hv
      rw [Array.getElem?_append_left (by simpa using hjl)] at hv
      simp [hjl] at hj hv
      subst hj; subst hv
      exact .int _ _
    · refine .slice _ _ _ _ _ _ _ (by simp [Env.U, Env.alloc, Env.draw]) (fun r hr => ?_) (by omega) (fun c hc => by simp at hc)
      simp [Env.alloc, Env.draw] at hr
      subst hr
      refine ⟨rfl, ?_⟩
      have : bsz (E.draw.alloc n (.cells cells e (nc, nc + 1))).w E.w.heap.size = cells.size := by
        unfold bsz
        show (match (E.w.heap.push (.cells cells e (nc, nc + 1)))[E.w.heap.size]? with | some (.cells c _ _) => c.size | _ => 0) = _
        rw [Array.getElem?_push_size]
      omega
  · simp at h

end
end Go.Cn
