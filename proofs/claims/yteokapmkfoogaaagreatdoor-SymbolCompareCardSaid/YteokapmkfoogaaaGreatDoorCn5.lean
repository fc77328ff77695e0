/- The canonical calculus, part 5: operators, places, building, slicing, growing. -/
import Derived.Test.YteokapmkfoogaaaGreatDoorCn4
set_option linter.unusedVariables false
set_option linter.unusedSimpArgs false
noncomputable section
namespace Go.Cn

section
variable {P : Program} {E : Env}

theorem cbin_sound {w : World} {op : BinOp} {t : TypeId} {x y z : CV} {v u : Value} {xo yo : Operand} (hx : VR E x v) (hy : VR E y u) (h : cbin P op t x y = some z) :
    (eqGuard op t xo yo v u).run P w = .ok () w ∧ (binOp op t v u).run P w = .ok (toV z) w ∧ plainV z = true := by
  unfold cbin at h
  split at h
  · next k a k' b =>
    cases hx; cases hy
    refine ⟨eqGuard_plain (by simp) (by simp), ?_⟩
    split at h
    · split at h <;> simp only [Option.some.injEq, reduceCtorEq] at h
      next hb => subst h; exact ⟨by simp [binOp, Op.shift, hb, toV], rfl⟩
    · split at h <;> simp only [Option.some.injEq, reduceCtorEq] at h
      next hb => subst h; exact ⟨by simp [binOp, Op.shift, hb, toV], rfl⟩
    · next h1 h2 =>
      split at h <;> try (simp at h; done)
      next hk => subst hk; exact cint_sound (by simpa using h1) (by simpa using h2) h
  · cases hx; cases hy
    exact ⟨eqGuard_plain (by simp) (by simp), cstr_sound h⟩
  · next h1 h2 =>
    split at h
    · split at h <;> simp only [Option.some.injEq, reduceCtorEq] at h
      next b hb =>
      subst h
      obtain ⟨h3, h4⟩ := ceq_sound (op := .eql) (xo := xo) (yo := yo) (w := w) hx hy hb
      refine ⟨h3, ?_, rfl⟩
      unfold ceq at hb
      split at hb <;> try (simp at hb; done)
      · cases hx; cases hy; simp [binOp, h4, toV]
      · cases hx; cases hy; simp [binOp, h4, toV]
    · split at h <;> simp only [Option.some.injEq, reduceCtorEq] at h
      next b hb =>
      subst h
      obtain ⟨h3, h4⟩ := ceq_sound (op := .neq) (xo := xo) (yo := yo) (w := w) hx hy hb
      refine ⟨h3, ?_, rfl⟩
      unfold ceq at hb
      split at hb <;> try (simp at hb; done)
      · cases hx; cases hy; simp [binOp, h4, toV]
      · cases hx; cases hy; simp [binOp, h4, toV]
    · simp at h

theorem cun_sound {w : World} {op : UnOp} {x z : CV} {v : Value} (hx : VR E x v) (h : cun op x = some z) : (Op.unary op v).run P w = .ok (toV z) w ∧ plainV z = true := by
  unfold cun at h
  split at h <;> simp only [Option.some.injEq, reduceCtorEq] at h
  · cases hx; subst h; exact ⟨by simp [Op.unary, Op.intArith, toV], rfl⟩
  · cases hx; subst h; exact ⟨by simp [Op.unary, toV], rfl⟩

theorem asIdx_sound {w : World} {x : CV} {v : Value} {i : Int} (hx : VR E x v) (h : asIdx x = some i) : ∃ k, (asIntOf v).run P w = .ok (k, i) w := by
  unfold asIdx at h
  split at h <;> simp only [Option.some.injEq, reduceCtorEq] at h
  subst h; cases hx
  exact ⟨_, by simp [asIntOf]; rfl⟩

theorem cindexAddr_sound {w : World} {t : TypeId} {x i z : CV} {v u : Value} (hx : VR E x v) (hi : VR E i u) (h : cindexAddr P t x i = some z) :
    ∃ r, (Instr.indexAt t v u).run P w = .ok r w ∧ VR E z r := by
  unfold cindexAddr at h
  split at h <;> try (simp at h; done)
  next iv hiv =>
  obtain ⟨k, hk⟩ := asIdx_sound (P := P) (w := w) hi hiv
  split at h <;> try (simp at h; done)
  next hneg =>
  have h0 : 0 ≤ iv := by omega
  split at h
  · next e sz b off len cap hu =>
    split at h <;> try (simp at h; done)
    next hlt =>
    split at h <;> try (simp at h; done)
    next s hs =>
    split at h <;> simp only [Option.some.injEq, reduceCtorEq] at h
    next hsz =>
    obtain rfl := Nat.eq_of_beq_eq_true hsz
    subst h
    have hlt' : iv.toNat < len := by simpa [Nat.blt_eq] using hlt
    cases hx with
    | slice _ _ _ _ _ ad cap' h1 h2 h3 h4 =>
    refine ⟨.pointer (some (ad.add (iv.toNat * s))), ?_, .ptr b _ _ h1 fun r hr => ?_⟩
    · simp only [Instr.indexAt, Sem.run_bind, hk, Result.andThen_ok, run_underlying hu, Sem.run_pure]
      simp only [Sem.run_bind, Sem.run_ite, run_underlying hu, Result.andThen_ok, Sem.run_pure, run_sizeOf' w hs, if_pos (show 0 ≤ iv ∧ iv < (len : Int) from ⟨h0, by omega⟩)]
    · rw [(h2 r hr).1, add_none]
  · next e sz xs cap hu =>
    split at h <;> try (simp at h; done)
    next c hc =>
    split at h <;> try (simp at h; done)
    next s hs =>
    split at h <;> simp only [Option.some.injEq, reduceCtorEq] at h
    next hsz =>
    obtain rfl := Nat.eq_of_beq_eq_true hsz
    subst h
    have hlt : iv.toNat < xs.length := by
      rcases Nat.lt_or_ge iv.toNat xs.length with h' | h'
      · exact h'
      · rw [List.getElem?_eq_none h'] at hc; simp at hc
    cases hx with
    | ro _ _ _ a cap' r o vs h1 h2 h3 h4 h5 h6 =>
    have hne : xs ≠ [] := by rintro rfl; simp at hlt
    obtain ⟨ha, hI⟩ := h3 hne
    subst ha
    refine ⟨.pointer (some ⟨r, o + iv.toNat * s + 0, none⟩), ?_, .rop c 0 r (o + iv.toNat * s) (fun j => vs iv.toNat j) hI (fun j x hj => h5 _ j c x hc hj) (fun j x hj => h6 _ j c x hc hj)⟩
    simp only [Instr.indexAt, Sem.run_bind, hk, Result.andThen_ok, run_underlying hu, Sem.run_pure]
    simp only [Sem.run_bind, Sem.run_ite, run_underlying hu, Result.andThen_ok, Sem.run_pure, run_sizeOf' w hs, if_pos (show 0 ≤ iv ∧ iv < (xs.length : Int) from ⟨h0, by omega⟩), add_none, Nat.add_zero]
  · next len e b off hu =>
    split at h <;> try (simp at h; done)
    next hlt =>
    split at h <;> simp only [Option.some.injEq, reduceCtorEq] at h
    next s hs =>
    subst h
    have hlt' : iv.toNat < len := by simpa [Nat.blt_eq] using hlt
    cases hx with
    | ptr _ _ ad h1 h2 =>
    refine ⟨.pointer (some (ad.add (iv.toNat * s))), ?_, .ptr b _ _ h1 fun r hr => ?_⟩
    · simp only [Instr.indexAt, Sem.run_bind, hk, Result.andThen_ok, run_underlying hu, Sem.run_pure, Instr.sureAddr]
      simp only [Sem.run_bind, Sem.run_ite, run_underlying hu, Result.andThen_ok, Sem.run_pure, run_sizeOf' w hs, if_pos (show 0 ≤ iv ∧ iv < (len : Int) from ⟨h0, by omega⟩)]
    · rw [h2 r hr, add_none]
  · next len e c off hu =>
    split at h <;> try (simp at h; done)
    next hlt =>
    split at h <;> simp only [Option.some.injEq, reduceCtorEq] at h
    next s hs =>
    subst h
    have hlt' : iv.toNat < len := by simpa [Nat.blt_eq] using hlt
    cases hx with
    | rop _ _ r base vs h1 h2 h3 =>
    refine ⟨.pointer (some ⟨r, base + (off + iv.toNat * s), none⟩), ?_, .rop c _ r base vs h1 h2 h3⟩
    simp only [Instr.indexAt, Sem.run_bind, hk, Result.andThen_ok, run_underlying hu, Sem.run_pure, Instr.sureAddr]
    simp only [Sem.run_bind, Sem.run_ite, run_underlying hu, Result.andThen_ok, Sem.run_pure, run_sizeOf' w hs, if_pos (show 0 ≤ iv ∧ iv < (len : Int) from ⟨h0, by omega⟩), add_none, Nat.add_assoc]
  · simp at h

theorem cfieldAddr_sound {w : World} {t : TypeId} {x z : CV} {f : Nat} {v : Value} (hx : VR E x v) (h : cfieldAddr P t x f = some z) :
    ∃ r, (Instr.fieldAt t v f).run P w = .ok r w ∧ VR E z r := by
  unfold cfieldAddr at h
  split at h <;> try (simp at h; done)
  next fs hu =>
  split at h <;> try (simp at h; done)
  next fd hf =>
  split at h <;> try (simp at h; done)
  next s hs =>
  split at h <;> simp only [Option.some.injEq, reduceCtorEq] at h
  · next b off =>
    subst h
    cases hx with
    | ptr _ _ ad h1 h2 =>
    refine ⟨.pointer (some (ad.add fd.offset)), ?_, .ptr b _ _ h1 fun r hr => ?_⟩
    · simp [Instr.fieldAt, run_underlying hu, hf, Instr.sureAddr, fieldPlace, run_sizeOf' w hs]
    · rw [h2 r hr, add_none]
  · next c off =>
    subst h
    cases hx with
    | rop _ _ r base vs h1 h2 h3 =>
    refine ⟨.pointer (some ⟨r, base + (off + fd.offset), none⟩), ?_, .rop c _ r base vs h1 h2 h3⟩
    simp [Instr.fieldAt, run_underlying hu, hf, Instr.sureAddr, fieldPlace, run_sizeOf' w hs, add_none, Nat.add_assoc]

theorem cfield_sound {w : World} {t : TypeId} {x z : CV} {f : Nat} {v : Value} (hx : VR E x v) (h : cfield P t x f = some z) :
    ∃ r, (Instr.field t v f).run P w = .ok r w ∧ VR E z r := by
  unfold cfield at h
  split at h <;> try (simp at h; done)
  next fs cs hu =>
  split at h <;> try (simp at h; done)
  next fd hf =>
  cases hx with
  | agg _ vs h1 h2 =>
  obtain ⟨r, h3, h4⟩ := cpart_part (w := w) h1 h2 h
  exact ⟨r, by simp [Instr.field, run_underlying hu, hf, asAgg, h3], h4⟩

theorem cindex_sound {w : World} {t : TypeId} {x i z : CV} {v u : Value} (hx : VR E x v) (hi : VR E i u) (h : cindex P t x i = some z) :
    ∃ r, (Instr.index t v u).run P w = .ok r w ∧ VR E z r := by
  unfold cindex at h
  split at h <;> try (simp at h; done)
  next iv hiv =>
  obtain ⟨k, hk⟩ := asIdx_sound (P := P) (w := w) hi hiv
  split at h <;> try (simp at h; done)
  next hneg =>
  have h0 : 0 ≤ iv := by omega
  split at h <;> try (simp at h; done)
  · next len e cs hu =>
    split at h <;> try (simp at h; done)
    next hlt =>
    split at h <;> try (simp at h; done)
    next s hs =>
    have hlt' : iv.toNat < len := by simpa [Nat.blt_eq] using hlt
    cases hx with
    | agg _ vs h1 h2 =>
    obtain ⟨r, h3, h4⟩ := cpart_part (w := w) h1 h2 h
    refine ⟨r, ?_, h4⟩
    simp only [Instr.index, Sem.run_bind, hk, Result.andThen_ok, run_underlying hu, Sem.run_ite, if_pos (show 0 ≤ iv ∧ iv < (len : Int) from ⟨h0, by omega⟩), run_sizeOf' w hs, h3]
  · next s hu =>
    split at h <;> simp only [Option.some.injEq, reduceCtorEq] at h
    next b hb =>
    subst h
    cases hx with
    | str _ =>
    refine ⟨.int .u8 b.toNat, ?_, .int _ _⟩
    have hlt : iv.toNat < s.length := by
      rcases Nat.lt_or_ge iv.toNat s.length with h' | h'
      · exact h'
      · rw [List.getElem?_eq_none h'] at hb; simp at hb
    have hsz : iv.toNat < (⟨⟨s⟩⟩ : ByteArray).size := by simpa [ByteArray.size] using hlt
    have hb' : (⟨⟨s⟩⟩ : ByteArray)[iv.toNat]? = some b := by
      rw [getElem?_pos (⟨⟨s⟩⟩ : ByteArray) iv.toNat hsz]
      rw [List.getElem?_eq_getElem hlt] at hb
      exact hb
    simp only [Instr.index, Sem.run_bind, hk, Result.andThen_ok, run_underlying hu, if_pos h0, hb', Sem.run_pure]

end
end Go.Cn
