/- The canonical calculus, part 9: copy, conversions, building, and every operation. -/
import Derived.Test.YteokapmkfoogaaaGreatDoorCn8
set_option linter.unusedVariables false
set_option linter.unusedSimpArgs false
noncomputable section
namespace Go.Cn

section
variable {P : Program}

theorem ccopy_sound {E : Env} {H : CHeap} (hH : HR E H) {argTypes : Array TypeId} {ty : TypeId} {d s x : CV} {v u : Value} {H' : CHeap} {n n' lo : Nat} (hd : VR E d v) (hs : VR E s u)
    (h : ccopy P argTypes d s H n lo = some (x, H', n')) : ∃ E' r, (Builtin.copy_ argTypes ty #[v, u]).run P E.w = .ok r E'.w ∧ Ex E E' ∧ HR E' H' ∧ UB E E' n n' ∧ VR E' x r := by
  unfold ccopy at h
  split at h <;> try (simp at h; done)
  next dT h0 =>
  split at h <;> try (simp at h; done)
  next e h1 =>
  split at h <;> try (simp at h; done)
  next sz ysz k cells h2 hel =>
  obtain ⟨hl, hcl, hel'⟩ := celems_sound (P := P) hH hs hel
  split at h <;> try (simp at h; done)
  · next dsz xs dcap =>
    split at h <;> simp only [Option.some.injEq, reduceCtorEq, Prod.mk.injEq] at h
    next hxs =>
    obtain ⟨rfl, rfl, rfl⟩ := h
    simp only [Bool.and_eq_true, Bool.or_eq_true] at hxs
    have hys' : sz = ysz ∨ k = 0 := by
      rcases hxs.2 with h | h
      · exact .inl (Nat.eq_of_beq_eq_true h).symm
      · exact .inr (by simpa using h)
    have hxs : xs = [] := by simpa using hxs.1
    subst hxs
    cases hd with
    | ro _ _ _ a cap' r o vs g1 g2 g3 g4 g5 g6 =>
    obtain ⟨nvs, hf, hfs, _⟩ := hel' sz 0 (Nat.zero_le _) hys'
    have hnil : nvs = #[] := by simpa using hfs
    subst hnil
    refine ⟨E, .int .i64 0, ?_, .refl E, hH, .refl, .int _ _⟩
    cases a <;> simp [Builtin.copy_, h0, run_underlying h1, hl, run_sizeOf' _ h2, hf, goInt, storeCells]
  · next dsz b off len dcap =>
    split at h <;> try (simp at h; done)
    next hcond =>
    split at h <;> try (simp at h; done)
    next blk hg =>
    split at h <;> simp only [Option.some.injEq, reduceCtorEq, Prod.mk.injEq] at h
    next hle =>
    obtain ⟨rfl, rfl, rfl⟩ := h
    simp only [Bool.or_eq_true, not_or, Bool.not_eq_true', Bool.not_eq_false, Nat.beq_eq_true_eq, Bool.and_eq_true] at hcond hle
    obtain ⟨hds, hys⟩ := hcond
    obtain ⟨hle, hsc⟩ := hle
    have hds : dsz = sz := by simpa using hds
    subst hds
    have hle := Nat.le_of_ble_eq_true hle.2
    obtain ⟨r, hr, hbr⟩ := hH.get b blk hg
    cases hd with
    | slice _ _ _ _ _ ad cap' g1 g2 g3 g4 =>
    obtain ⟨rfl, hB⟩ := g2 r hr
    have hys' : dsz = ysz ∨ k = 0 := by
      rcases hys with h | h
      · exact .inl (Nat.eq_of_beq_eq_true h).symm
      · exact .inr (by simpa using h)
    obtain ⟨nvs, hf, hfs, hnv⟩ := hel' dsz (Nat.min k len) (Nat.min_le_left _ _) hys'
    have hm : Nat.min k len * dsz ≤ len * dsz := Nat.mul_le_mul_right dsz (Nat.min_le_right _ _)
    have hm2 : Nat.min k len * dsz ≤ cells.length := by
      rcases hys' with h | h
      · rw [hcl, h]; exact Nat.mul_le_mul_right ysz (Nat.min_le_left _ _)
      · subst h; simp
    have htl : (cells.take (Nat.min k len * dsz)).length = Nat.min k len * dsz := by rw [List.length_take]; omega
    obtain ⟨E', s1, s2, s3, s4, s5, s6⟩ := storeCells_sound (P := P) (cells.take (Nat.min k len * dsz)) (i := 0) (o := off) hH hg hr (vs := nvs.toList) (by omega) (by rw [htl]; simpa using hfs)
      (fun j x v hx hv => hnv j x v hx (by simpa using hv)) (by rw [List.all_eq_true] at hsc ⊢; exact fun x hx => hsc x (List.mem_of_mem_take hx))
    refine ⟨E', goInt (Nat.min k len : Nat), ?_, s2, s3, .of_eq s5, .int _ _⟩
    simp only [Builtin.copy_, h0, List.getElem?_toArray, List.getElem?_cons_zero, List.getElem?_cons_succ, Sem.run_bind, run_underlying h1, hl, run_sizeOf' _ h2, hf, Result.andThen_ok, s1, Sem.run_pure]

theorem clen_sound {E : Env} {argTypes : Array TypeId} {ty : TypeId} {x z : CV} {v : Value} (hx : VR E x v) (h : clen P argTypes x = some z) :
    (Builtin.len_ argTypes ty #[v]).run P E.w = .ok (toV z) E.w ∧ plainV z = true := by
  unfold clen at h
  split at h <;> try (simp at h; done)
  next t h0 =>
  split at h <;> simp only [Option.some.injEq, reduceCtorEq] at h
  · next s hu =>
    cases hx; subst h
    have hsz : ByteArray.size ⟨⟨s⟩⟩ = s.length := by simp [ByteArray.size]
    exact ⟨by simp [Builtin.len_, h0, run_underlying hu, goInt, toV, hsz], rfl⟩
  · next hu => cases hx; subst h; exact ⟨by simp [Builtin.len_, h0, run_underlying hu, goInt, toV], rfl⟩
  · next hu => cases hx; subst h; exact ⟨by simp [Builtin.len_, h0, run_underlying hu, goInt, toV], rfl⟩

theorem vrs_cons {E : Env} {x : CV} {xs : List CV} {vs : Array Value} (h : VRs E (x :: xs) vs) : ∃ v us, vs.toList = v :: us ∧ VR E x v ∧ VRs E xs us.toArray := by
  obtain ⟨h1, h2⟩ := h
  cases hv : vs.toList with
  | nil =>
    have : vs.size = 0 := by rw [← Array.length_toList, hv]; rfl
    rw [this] at h1; simp at h1
  | cons v us =>
    have hg : ∀ i, vs[i]? = (v :: us)[i]? := fun i => by rw [← hv, Array.getElem?_toList]
    refine ⟨v, us, rfl, h2 0 x v rfl (by rw [hg]; rfl), ?_, fun i y u hy hu => h2 (i + 1) y u hy (by rw [hg]; rw [List.getElem?_toArray] at hu; exact hu)⟩
    have : vs.size = us.length + 1 := by rw [← Array.length_toList, hv]; rfl
    simp at h1 ⊢; omega

theorem vrs_nil {E : Env} {vs : Array Value} (h : VRs E [] vs) : vs.toList = [] := by
  have : vs.size = 0 := by simpa using h.1
  simpa using this

theorem cminmax_sound {E : Env} (mx : Bool) : ∀ (rest : List CV) (x z : CV) (v : Value) (us : List Value), VR E x v → VRs E rest us.toArray → cminmax mx x rest = some z →
    (us.foldlM (if mx then Builtin.max2 else Builtin.min2) v : Sem Value).run P E.w = .ok (toV z) E.w ∧ plainV z = true := by
  intro rest
  induction rest with
  | nil =>
    intro x z v us hx hr h
    have : us = [] := vrs_nil hr
    subst this
    cases x <;> simp only [cminmax, Option.some.injEq, reduceCtorEq] at h
    subst h; cases hx; exact ⟨by simp [toV], rfl⟩
  | cons y rest ih =>
    intro x z v us hx hr h
    obtain ⟨u, us', hus, hu, hr'⟩ := vrs_cons hr
    have hus : us = u :: us' := hus
    subst hus
    unfold cminmax at h
    split at h
    · next k a k' b r' he =>
      simp only [List.cons.injEq] at he
      obtain ⟨rfl, rfl⟩ := he
      cases hx; cases hu
      have hstep := ih _ z (.int k (if mx then (if b > a then b else a) else (if b < a then b else a))) us' (.int _ _) hr' h
      rw [List.foldlM_cons, Sem.run_bind]
      cases mx
      · have : (Builtin.min2 (.int k a) (.int k' b)).run P E.w = .ok (.int k (if b < a then b else a)) E.w := by simp [Builtin.min2]
        simp only [Bool.false_eq_true, if_false] at hstep ⊢
        rw [this]; exact hstep
      · have : (Builtin.max2 (.int k a) (.int k' b)).run P E.w = .ok (.int k (if b > a then b else a)) E.w := by simp [Builtin.max2]
        simp only [if_true] at hstep ⊢
        rw [this]; exact hstep
    · next he => simp at he
    · simp at h

end
end Go.Cn
