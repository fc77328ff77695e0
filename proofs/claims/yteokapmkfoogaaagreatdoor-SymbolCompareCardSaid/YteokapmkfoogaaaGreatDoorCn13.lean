/- The canonical calculus, part 13: regions in their written order, steps, returns. -/
import Derived.Test.YteokapmkfoogaaaGreatDoorCn12
set_option linter.unusedVariables false
set_option linter.unusedSimpArgs false
noncomputable section
namespace Go.Cn

section
variable {P : Program}

theorem cappend_keeps {argTypes : Array TypeId} {s y x : CV} {H H' : CHeap} {n n' lo : Nat} (h : cappend P argTypes s y H n lo = some (x, H', n')) : Keeps H H' n n' lo := by
  unfold cappend at h
  split at h <;> try (simp at h; done)
  split at h <;> try (simp at h; done)
  split at h <;> try (simp at h; done)
  split at h <;> try (simp at h; done)
  split at h <;> try (simp at h; done)
  split at h
  · split at h <;> simp only [Option.some.injEq, reduceCtorEq, Prod.mk.injEq] at h <;> (obtain ⟨rfl, rfl, rfl⟩ := h; exact .refl)
  · split at h <;> try (simp at h; done)
    split at h <;> try (simp at h; done)
    split at h
    · split at h <;> try (simp at h; done)
      split at h <;> simp only [Option.some.injEq, reduceCtorEq, Prod.mk.injEq] at h
      obtain ⟨rfl, rfl, rfl⟩ := h; exact .new
    · split at h <;> try (simp at h; done)
      split at h <;> try (simp at h; done)
      split at h
      · split at h
        · split at h <;> simp only [Option.some.injEq, reduceCtorEq, Prod.mk.injEq] at h
          next hc =>
          simp only [Bool.and_eq_true] at hc
          obtain ⟨rfl, rfl, rfl⟩ := h; exact .set (Nat.le_of_ble_eq_true hc.1.1)
        · split at h <;> simp only [Option.some.injEq, reduceCtorEq, Prod.mk.injEq] at h
          obtain ⟨rfl, rfl, rfl⟩ := h; exact .new
      · split at h <;> simp only [Option.some.injEq, reduceCtorEq, Prod.mk.injEq] at h
        next hc =>
        simp only [Bool.and_eq_true] at hc
        obtain ⟨rfl, rfl, rfl⟩ := h; exact .del (Nat.le_of_ble_eq_true hc.1.1.1)
    · simp at h

theorem ccopy_keeps {argTypes : Array TypeId} {s y x : CV} {H H' : CHeap} {n n' lo : Nat} (h : ccopy P argTypes s y H n lo = some (x, H', n')) : Keeps H H' n n' lo := by
  unfold ccopy at h
  split at h <;> try (simp at h; done)
  split at h <;> try (simp at h; done)
  split at h <;> try (simp at h; done)
  split at h <;> try (simp at h; done)
  · split at h <;> simp only [Option.some.injEq, reduceCtorEq, Prod.mk.injEq] at h
    obtain ⟨rfl, rfl, rfl⟩ := h; exact .refl
  · split at h <;> try (simp at h; done)
    split at h <;> try (simp at h; done)
    split at h <;> simp only [Option.some.injEq, reduceCtorEq, Prod.mk.injEq] at h
    next hc =>
    simp only [Bool.and_eq_true] at hc
    obtain ⟨rfl, rfl, rfl⟩ := h; exact .set (Nat.le_of_ble_eq_true hc.1.1)

theorem cop_keeps {call : Call} (hS : Sound P call) {op : Op} {tm : CTm} {H H' : CHeap} {n n' lo : Nat} {x : CV} (h : cop P call op tm H n lo = some (x, H', n')) : Keeps H H' n n' lo := by
  have pureK : ∀ {y : Option CV}, (match y with | some v => some (v, H, n) | none => none) = some (x, H', n') → Keeps H H' n n' lo := by
    intro y hy
    cases y with
    | none => simp at hy
    | some z => simp only [Option.some.injEq, Prod.mk.injEq] at hy; obtain ⟨rfl, rfl, rfl⟩ := hy; exact .refl
  unfold cop at h
  split at h
  · exact pureK h
  · exact pureK h
  · split at h <;> first | exact pureK h | (simp at h; done)
  · split at h <;> simp only [Option.some.injEq, reduceCtorEq, Prod.mk.injEq] at h
    obtain ⟨rfl, rfl, rfl⟩ := h; exact .new
  · split at h <;> simp only [Option.some.injEq, reduceCtorEq, Prod.mk.injEq] at h
    obtain ⟨rfl, rfl, rfl⟩ := h; exact .new
  · split at h <;> first | exact pureK h | (simp at h; done)
  · split at h <;> try (simp at h; done)
    unfold cbuildSlice at h
    split at h <;> try (simp at h; done)
    split at h <;> try (simp at h; done)
    split at h <;> try (simp at h; done)
    split at h <;> simp only [Option.some.injEq, reduceCtorEq, Prod.mk.injEq] at h
    obtain ⟨rfl, rfl, rfl⟩ := h; exact .new
  · split at h <;> first | exact pureK h | (simp at h; done)
  · split at h <;> try (simp at h; done)
    split at h <;> try (simp at h; done)
    split at h <;> simp only [Option.some.injEq, reduceCtorEq, Prod.mk.injEq] at h
    next hc =>
    simp only [Bool.and_eq_true] at hc
    obtain ⟨rfl, rfl, rfl⟩ := h; exact .set (Nat.le_of_ble_eq_true hc.1.1.1)
  · split at h <;> try (simp at h; done)
    split at h <;> simp only [Option.some.injEq, reduceCtorEq, Prod.mk.injEq] at h
    obtain ⟨rfl, rfl, rfl⟩ := h; exact .refl
  · split at h <;> first | exact pureK h | (simp at h; done)
  · split at h <;> first | exact pureK h | (simp at h; done)
  · split at h <;> try (simp at h; done)
    unfold cconvert at h
    split at h
    · simp only [Option.some.injEq, Prod.mk.injEq] at h; obtain ⟨rfl, rfl, rfl⟩ := h; exact .refl
    · simp only [Option.some.injEq, Prod.mk.injEq] at h; obtain ⟨rfl, rfl, rfl⟩ := h; exact .refl
    · split at h <;> try (simp at h; done)
      split at h <;> try (simp at h; done)
      split at h <;> simp only [Option.some.injEq, reduceCtorEq, Prod.mk.injEq] at h
      obtain ⟨rfl, rfl, rfl⟩ := h; exact .refl
    · split at h <;> try (simp at h; done)
      split at h <;> try (simp at h; done)
      split at h <;> try (simp at h; done)
      split at h <;> simp only [Option.some.injEq, reduceCtorEq, Prod.mk.injEq] at h
      obtain ⟨rfl, rfl, rfl⟩ := h; exact .refl
    · split at h <;> try (simp at h; done)
      simp only [Option.some.injEq, Prod.mk.injEq] at h; obtain ⟨rfl, rfl, rfl⟩ := h; exact .new
    · simp at h
  · split at h <;> simp only [Option.some.injEq, reduceCtorEq, Prod.mk.injEq] at h
    obtain ⟨rfl, rfl, rfl⟩ := h; exact .refl
  · split at h <;> try (simp at h; done)
    unfold cmakeSlice at h
    split at h <;> try (simp at h; done)
    split at h <;> try (simp at h; done)
    split at h <;> simp only [Option.some.injEq, reduceCtorEq, Prod.mk.injEq] at h
    obtain ⟨rfl, rfl, rfl⟩ := h; exact .new
  · split at h <;> first | exact pureK h | (simp at h; done)
  · split at h <;> first | exact pureK h | (simp at h; done)
  · split at h <;> first | exact pureK h | (simp at h; done)
  · split at h <;> first | exact pureK h | (simp at h; done)
  · split at h <;> first | exact pureK h | (simp at h; done)
  · split at h <;> first | exact pureK h | (simp at h; done)
  · unfold ccall at h
    split at h <;> try (simp at h; done)
    split at h
    · split at h <;> try (simp at h; done)
      exact (hS _ _ _ _ _ _ _ _ h).2.1
    · split at h <;> try (simp at h; done)
      split at h <;> simp only [Option.some.injEq, reduceCtorEq, Prod.mk.injEq] at h
      obtain ⟨rfl, rfl, rfl⟩ := h; exact .refl
    · split at h <;> try (simp at h; done)
      exact cappend_keeps h
    · split at h <;> try (simp at h; done)
      exact ccopy_keeps h
    · split at h <;> try (simp at h; done)
      split at h <;> simp only [Option.some.injEq, reduceCtorEq, Prod.mk.injEq] at h
      obtain ⟨rfl, rfl, rfl⟩ := h; exact .refl
    · split at h <;> try (simp at h; done)
      split at h <;> simp only [Option.some.injEq, reduceCtorEq, Prod.mk.injEq] at h
      obtain ⟨rfl, rfl, rfl⟩ := h; exact .refl
    · simp at h
  · simp at h

theorem cops_keeps {call : Call} (hS : Sound P call) {N lo : Nat} {ops : Array Oper} : ∀ (rest : List Oper) (cs cs' : CS), cops P call N lo ops rest cs = some cs' → Keeps cs.H cs'.H cs.n cs'.n lo := by
  intro rest
  induction rest with
  | nil => intro cs cs' h; simp [cops] at h; subst h; exact .refl
  | cons o rest ih =>
    intro cs cs' h
    simp only [cops] at h
    split at h <;> try (simp at h; done)
    split at h
    · split at h <;> try (simp at h; done)
      next x H n hc => exact (cop_keeps hS hc).trans (ih _ _ h)
    · exact ih ⟨cput cs.tm o.dst (.tup []), cs.H, cs.n⟩ _ h
    · simp at h

/-- what is known of an operation: from this memory it comes to this value and this memory -/
def OpOk (P : Program) (o : Oper) (tm : CTm) (H : CHeap) (n lo : Nat) (x : CV) (H' : CHeap) (n' : Nat) : Prop :=
  Keeps H H' n n' lo ∧ ∀ (E : Env) (a : Act), HR E H → Keys H n → TR E tm a → Fr E n n' → ∀ (next : Act → World → Prop) (Q : Exit → Act → World → Prop), LetsGo Q →
    (∀ E' v, Ex E E' → HR E' H' → UB E E' n n' → VR E' x v → next (a.put o.dst v) E'.w) → o.wp P a E.w next Q

theorem opOk_of {call : Call} (hS : Sound P call) {o : Oper} {tm : CTm} {H H' : CHeap} {n n' lo : Nat} {x : CV} (h : cop P call o.op tm H n lo = some (x, H', n')) : OpOk P o tm H n lo x H' n' :=
  ⟨cop_keeps hS h, fun _ _ h1 h2 h3 h4 _ _ hL hK => cop_sound hS h1 h2 h3 h h4 hL hK⟩

/-! ### one region -/
theorem put_getD {a : Act} {d t : Nat} {v : Value} (hd : d < a.tmps.size) : (a.put (some d) v).tmps.getD t undef = if d = t then v else a.tmps.getD t undef := by
  simp only [Act.put, Array.getD_eq_getD_getElem?]
  by_cases e : d = t
  · subst e
    simp [hd]
  · simp [Array.getElem?_setIfInBounds_ne e, e]

theorem tr_put {E : Env} {tm : CTm} {a : Act} {dst : Option Tmp} {x : CV} {v : Value} (hT : TR E tm a) (hd : isSmall a.tmps.size dst = true) (hv : VR E x v) : TR E (cput tm dst x) (a.put dst v) := by
  cases dst with
  | none => exact hT
  | some d =>
    intro t y hy
    have hlt : d < a.tmps.size := by simpa [isSmall, Nat.blt_eq] using hd
    rw [put_getD hlt]
    simp only [cput, tget_nil, tget_cons] at hy
    by_cases e : d = t
    · subst e; simp at hy; subst hy; simpa using hv
    · simp [e] at hy; rw [if_neg e]; exact hT t y hy

theorem put_size {a : Act} {dst : Option Tmp} {v : Value} : (a.put dst v).tmps.size = a.tmps.size := by
  cases dst <;> simp [Act.put]

theorem put_defers {a : Act} {dst : Option Tmp} {v : Value} : (a.put dst v).defers = a.defers := by
  cases dst <;> rfl

theorem vr_undef {E : Env} : VR E (.tup []) undef := .tup [] #[] rfl (fun i x v hx => by simp at hx)

theorem cwanted_sound {E : Env} {tm : CTm} {a : Act} {ops : Array Oper} {o : Oper} {b : Bool} (hT : TR E tm a) (h : cwanted ops tm o.guard = some b) : Region.wanted o (yielded ops a.tmps) = b := by
  unfold cwanted at h
  unfold Region.wanted
  split at h
  · next hg => simp only [hg]; simpa using h
  · next j want hg =>
    simp only [hg]
    split at h
    · next ho => simp at h; subst h; simp [yielded, ho]
    · next p ho =>
      split at h
      · next hd => simp at h; subst h; simp [yielded, ho, hd]
      · next t hd =>
        split at h <;> simp only [Option.some.injEq, reduceCtorEq] at h
        · next c hc =>
          have hv := hT t _ hc
          generalize hu : a.tmps.getD t undef = u at hv
          cases hv
          have : a.tmps[t]? = some (.bool c) := by
            rw [Array.getD_eq_getD_getElem?] at hu
            cases hg' : a.tmps[t]? with
            | none => rw [hg'] at hu; simp [undef] at hu
            | some u => rw [hg'] at hu; simp at hu; rw [hu]
          simp only [yielded, ho, Option.bind_some, hd, this]
          subst h
          cases c <;> cases want <;> rfl
        · next vs hc =>
          have hv := hT t _ hc
          generalize hu : a.tmps.getD t undef = u at hv
          cases hv with
          | tup _ us _ _ =>
          have : yielded ops a.tmps j = none := by
            simp only [yielded, ho, Option.bind_some, hd]
            rw [Array.getD_eq_getD_getElem?] at hu
            cases hg' : a.tmps[t]? with
            | none => rfl
            | some u => rw [hg'] at hu; simp at hu; subst hu; rfl
          rw [this]; subst h; rfl

theorem cops_sound {call : Call} (hS : Sound P call) {N lo : Nat} {ops : Array Oper} : ∀ (rest : List Oper) (k : Nat) (cs cs' : CS) (E : Env) (a : Act), ops.toList.drop k = rest → cops P call N lo ops rest cs = some cs' → Rel N E cs a →
    Fr E cs.n cs'.n → ∀ (Q : Exit → Act → World → Prop), LetsGo Q → (∀ E' a', Ex E E' → UB E E' cs.n cs'.n → Rel N E' cs' a' → Q .normal a' E'.w) → wpOps P ops Q (List.range' k rest.length) a E.w := by
  intro rest
  induction rest with
  | nil =>
    intro k cs cs' E a hd h hR hfr Q hL hK
    simp [cops] at h; subst h
    simp only [List.length_nil, List.range'_zero, wpOps]
    exact hK E a (.refl E) .refl hR
  | cons o rest ih =>
    intro k cs cs' E a hd h hR hfr Q hL hK
    have hkeep := cops_keeps hS _ _ _ h
    have ho : ops[k]? = some o := by
      have : (ops.toList.drop k)[0]? = some o := by rw [hd]; rfl
      rw [List.getElem?_drop] at this
      simpa using this
    have hd' : ops.toList.drop (k + 1) = rest := by
      have : (ops.toList.drop k).drop 1 = rest := by rw [hd]; rfl
      rw [List.drop_drop] at this
      exact this
    simp only [cops] at h
    split at h <;> try (simp at h; done)
    next hsm =>
    have hsm : isSmall a.tmps.size o.dst = true := by rw [hR.size]; exact hsm
    rw [List.length_cons, List.range'_succ]
    simp only [wpOps, ho]
    split at h
    · next hw =>
      rw [if_pos (cwanted_sound hR.tmps hw)]
      split at h <;> try (simp at h; done)
      next x H n hc =>
      have hk1 := cop_keeps hS hc
      have hk2 := cops_keeps hS _ _ _ h
      have hfr1 : Fr E cs.n n := hfr.mono (Nat.le_refl _) hk2.1
      refine .inl (cop_sound hS hR.heap hR.keys hR.tmps hc hfr1 hL fun E' v hex hh hub hv => ?_)
      refine ih (k + 1) ⟨cput cs.tm o.dst x, H, n⟩ cs' E' (a.put o.dst v) hd' h ⟨hh, hk1.2.2 hR.keys, tr_put (fun t y hy => (hR.tmps t y hy).mono hex) hsm hv, by rw [put_size]; exact hR.size, by rw [put_defers]; exact hR.defers⟩
        (hfr.next hub hk1.1) Q hL fun E'' a' hex' hub' hR' => hK E'' a' (hex.trans hex') (hub.trans hub' hk1.1 hk2.1) hR'
    · next hw =>
      rw [if_neg (by rw [cwanted_sound hR.tmps hw]; simp)]
      exact ih (k + 1) ⟨cput cs.tm o.dst (.tup []), cs.H, cs.n⟩ cs' E (a.put o.dst undef) hd' h ⟨hR.heap, hR.keys, tr_put hR.tmps hsm vr_undef, by rw [put_size]; exact hR.size, by rw [put_defers]; exact hR.defers⟩
        hfr Q hL hK
    · simp at h

end
end Go.Cn
