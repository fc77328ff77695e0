/- The canonical calculus, part 6: slice expressions, append, copy, conversions. -/
import Derived.Test.YteokapmkfoogaaaGreatDoorCn5
set_option linter.unusedVariables false
set_option linter.unusedSimpArgs false
noncomputable section
namespace Go.Cn

section
variable {P : Program} {E : Env}

/-! ### slice expressions -/
def OR (E : Env) : Option CV → Option Value → Prop
  | none, none => True
  | some x, some v => VR E x v
  | _, _ => False

theorem optVal_sound {tm : CTm} {a : Act} (hT : TR E tm a) {o : Option Operand} {x : Option CV} (h : optVal tm o = some x) : OR E x (o.map a.eval) := by
  cases o with
  | none => simp [optVal] at h; subst h; trivial
  | some o =>
    simp only [optVal] at h
    split at h <;> simp only [Option.some.injEq, reduceCtorEq] at h
    next y hy => subst h; exact cval_sound hT hy

theorem cbound_sound {w : World} {x : CV} {v : Value} {y y' k : Nat} {code : BoundsCode} (hx : VR E x v) (h : cbound x y = some k) (hy : y ≤ y') :
    (Instr.sliceBound v y' code).run P w = .ok k w ∧ k ≤ y := by
  unfold cbound at h
  split at h <;> try (simp at h; done)
  next kd i =>
  split at h <;> try (simp at h; done)
  next hneg =>
  split at h <;> simp only [Option.some.injEq, reduceCtorEq] at h
  next hle =>
  subst h
  cases hx
  have hle' := Nat.le_of_ble_eq_true hle
  have : 0 ≤ i ∧ i ≤ (y' : Int) := ⟨by omega, by omega⟩
  exact ⟨by simp [Instr.sliceBound, asIntOf, this], hle'⟩

theorem cbounds_sound {w : World} {len top rc : Nat} {cap : Option Nat} {lo hi mx : Option CV} {low high max : Option Value} {b : Bool} {l h : Nat} {c : Option Nat}
    (h1 : OR E lo low) (h2 : OR E hi high) (h3 : OR E mx max) (ht : top ≤ rc) (hl : len ≤ rc) (hc : ∀ c, cap = some c → rc = c) (hb : cbounds len top cap lo hi mx = some (l, h, c)) :
    ∃ m, (Instr.sliceBounds b len rc low high max).run P w = .ok (l, h, m) w ∧ l ≤ h ∧ h ≤ m ∧ (∀ c', c = some c' → m = c') ∧ m ≤ rc ∧ (h ≤ top ∨ h = len) := by
  unfold cbounds at hb
  split at hb <;> try (simp at hb; done)
  next m c0 hm =>
  split at hb <;> try (simp at hb; done)
  next h0 hh =>
  split at hb <;> simp only [Option.some.injEq, reduceCtorEq, Prod.mk.injEq] at hb
  next l0 hl0 =>
  obtain ⟨rfl, rfl, rfl⟩ := hb
  cases max with
  | none =>
    cases mx with
    | some _ => simp [OR] at h3
    | none =>
    simp only [Option.some.injEq, Prod.mk.injEq] at hm
    obtain ⟨rfl, rfl⟩ := hm
    cases high with
    | none =>
      cases hi with
      | some _ => simp [OR] at h2
      | none =>
      simp only [Option.some.injEq] at hh
      subst hh
      cases low with
      | none =>
        cases lo with
        | some _ => simp [OR] at h1
        | none =>
        simp only [Option.some.injEq] at hl0
        subst hl0
        exact ⟨rc, by simp [Instr.sliceBounds], by omega, hl, hc, by omega, .inr rfl⟩
      | some lv =>
        cases lo with
        | none => simp [OR] at h1
        | some lx =>
        obtain ⟨r1, r2⟩ := cbound_sound (P := P) (w := w) (code := .sliceB) h1 hl0 (Nat.le_refl _)
        exact ⟨rc, by simp [Instr.sliceBounds, r1], r2, hl, hc, by omega, .inr rfl⟩
    | some hv =>
      cases hi with
      | none => simp [OR] at h2
      | some hx =>
      simp only at hh
      obtain ⟨q1, q2⟩ := cbound_sound (P := P) (w := w) (code := if b then .sliceAcap else .sliceAlen) h2 hh ht
      cases low with
      | none =>
        cases lo with
        | some _ => simp [OR] at h1
        | none =>
        simp only [Option.some.injEq] at hl0
        subst hl0
        exact ⟨rc, by simp [Instr.sliceBounds, q1], by omega, by omega, hc, by omega, .inl q2⟩
      | some lv =>
        cases lo with
        | none => simp [OR] at h1
        | some lx =>
        obtain ⟨r1, r2⟩ := cbound_sound (P := P) (w := w) (code := .sliceB) h1 hl0 (Nat.le_refl _)
        exact ⟨rc, by simp [Instr.sliceBounds, q1, r1], r2, by omega, hc, by omega, .inl q2⟩
  | some mv =>
    cases mx with
    | none => simp [OR] at h3
    | some mxv =>
    simp only at hm
    split at hm <;> simp only [Option.some.injEq, reduceCtorEq, Prod.mk.injEq] at hm
    next m0 hm0 =>
    obtain ⟨rfl, rfl⟩ := hm
    obtain ⟨p1, p2⟩ := cbound_sound (P := P) (w := w) (code := if b then .slice3Acap else .slice3Alen) h3 hm0 ht
    cases high with
    | none =>
      cases hi with
      | some _ => simp [OR] at h2
      | none => simp at hh
    | some hv =>
      cases hi with
      | none => simp [OR] at h2
      | some hx =>
      simp only at hh
      obtain ⟨q1, q2⟩ := cbound_sound (P := P) (w := w) (code := .slice3B) h2 hh (Nat.le_refl _)
      cases low with
      | none =>
        cases lo with
        | some _ => simp [OR] at h1
        | none =>
        simp only [Option.some.injEq] at hl0
        subst hl0
        exact ⟨m0, by simp [Instr.sliceBounds, p1, q1], by omega, by omega, fun c' hc' => by simpa using hc', by omega, .inl (by omega)⟩
      | some lv =>
        cases lo with
        | none => simp [OR] at h1
        | some lx =>
        obtain ⟨r1, r2⟩ := cbound_sound (P := P) (w := w) (code := .slice3C) h1 hl0 (Nat.le_refl _)
        exact ⟨m0, by simp [Instr.sliceBounds, p1, q1, r1], r2, by omega, fun c' hc' => by simpa using hc', by omega, .inl (by omega)⟩

theorem part_le {l m rc sz off B : Nat} (h1 : l ≤ m) (h2 : m ≤ rc) (h : off + rc * sz ≤ B) : off + l * sz + (m - l) * sz ≤ B := by
  have : l * sz + (m - l) * sz = m * sz := by rw [← Nat.add_mul]; congr 1; omega
  have := Nat.mul_le_mul_right sz h2
  omega

theorem ro_empty {sz : Nat} {a : Option Addr} {cap' : Nat} {cap : Option Nat} (h : ∀ c, cap = some c → cap' = c) : VR E (.ro sz [] cap) (.slice a 0 cap') :=
  .ro sz [] cap a cap' 0 0 (fun _ _ => undef) (Nat.zero_le _) h (fun h => absurd rfl h) (fun c hc => by simp at hc) (fun i j c x hx => by simp at hx) (fun i j c x hx => by simp at hx)

theorem cslice_sound {H : CHeap} (hH : HR E H) {t : TypeId} {x z : CV} {lo hi mx : Option CV} {v : Value} {low high max : Option Value} (hx : VR E x v)
    (h1 : OR E lo low) (h2 : OR E hi high) (h3 : OR E mx max) (h : cslice P t x lo hi mx H = some z) :
    ∃ r, (Instr.sliceAt t v low high max).run P E.w = .ok r E.w ∧ VR E z r := by
  unfold cslice at h
  split at h
  · next s hu =>
    cases mx with
    | some _ => simp at h
    | none =>
    cases max with
    | some _ => simp [OR] at h3
    | none =>
    simp only at h
    split at h <;> simp only [Option.some.injEq, reduceCtorEq] at h
    next l hh c hb =>
    subst h
    cases hx
    have hsz : ByteArray.size ⟨⟨s⟩⟩ = s.length := by simp [ByteArray.size]
    obtain ⟨m, r1, r2, r3, r4, r5, r6⟩ := cbounds_sound (P := P) (w := E.w) (b := false) (rc := s.length) (mx := none) (max := none) h1 h2 trivial (Nat.le_refl _) (Nat.le_refl _) (fun c hc => Option.some.inj hc) hb
    refine ⟨.string ⟨⟨(s.drop l).take (hh - l)⟩⟩, ?_, .str _⟩
    have hex : (⟨⟨s⟩⟩ : ByteArray).extract l hh = ⟨⟨(s.drop l).take (hh - l)⟩⟩ := by
      apply ByteArray.ext
      simp [ByteArray.data_extract]
    simp [Instr.sliceAt, Instr.slice, run_underlying hu, hsz, r1, hex]
  · next e sz b off len cap hu =>
    split at h <;> try (simp at h; done)
    next s hs =>
    split at h <;> try (simp at h; done)
    next hsz =>
    obtain rfl := Nat.eq_of_beq_eq_true hsz
    split at h <;> try (simp at h; done)
    next l hh c hb =>
    cases hx with
    | slice _ _ _ _ _ ad cap' g1 g2 g3 g4 =>
    have htop : cap.getD len ≤ cap' := by cases cap with
      | none => simpa using g3
      | some c0 => have := g4 c0 rfl; simp; omega
    obtain ⟨m, r1, r2, r3, r4, r5, r6⟩ := cbounds_sound (P := P) (w := E.w) (b := true) (rc := cap') h1 h2 h3 htop g3 g4 hb
    refine ⟨.slice (some (if m = l then ad else ad.add (l * s))) (hh - l) (m - l), ?_, ?_⟩
    · simp only [Instr.sliceAt, Instr.slice, Sem.run_bind, run_underlying hu, Result.andThen_ok, r1, run_sizeOf' _ hs, Sem.run_pure, Option.map_some]
      split <;> rfl
    · split at h
      · next c' =>
        have hm := r4 c' rfl
        subst hm
        split at h <;> simp only [Option.some.injEq, reduceCtorEq] at h
        · next h0 =>
          have h0' := Nat.eq_of_beq_eq_true h0
          subst h
          rw [show hh - l = 0 by omega]
          exact ro_empty (fun c hc => by simp at hc; omega)
        · next h0 =>
          have h0' : m - l ≠ 0 := fun e => h0 (by rw [e]; rfl)
          subst h
          rw [if_neg (by omega)]
          exact .slice _ _ _ _ _ _ _ g1 (fun r hr => by rw [(g2 r hr).1, add_none]; exact ⟨rfl, part_le (by omega) r5 (g2 r hr).2⟩) (by omega) (fun c hc => by simpa using hc)
      · split at h <;> simp only [Option.some.injEq, reduceCtorEq] at h
        · next h0 =>
          have h0' := Nat.eq_of_beq_eq_true h0
          subst h
          rw [h0']
          exact ro_empty (fun c hc => by simp at hc)
        · next h0 =>
          have h0' : hh - l ≠ 0 := fun e => h0 (by rw [e]; rfl)
          subst h
          rw [if_neg (by omega)]
          exact .slice _ _ _ _ _ _ _ g1 (fun r hr => by rw [(g2 r hr).1, add_none]; exact ⟨rfl, part_le (by omega) r5 (g2 r hr).2⟩) (by omega) (fun c hc => by simp at hc)
  · next e sz xs cap hu =>
    split at h <;> try (simp at h; done)
    next s hs =>
    split at h <;> try (simp at h; done)
    next hsz =>
    split at h <;> simp only [Option.some.injEq, reduceCtorEq] at h
    next l hh c hb =>
    cases hx with
    | ro _ _ _ a cap' r o vs g1 g2 g3 g4 g5 g6 =>
    obtain ⟨m, r1, r2, r3, r4, r5, r6⟩ := cbounds_sound (P := P) (w := E.w) (b := true) (rc := cap') h1 h2 h3 g1 g1 g2 hb
    have hhl : hh ≤ xs.length := by omega
    refine ⟨.slice (if m = l then a else a.map (·.add (l * s))) (hh - l) (m - l), ?_, ?_⟩
    · simp only [Instr.sliceAt, Instr.slice, Sem.run_bind, run_underlying hu, Result.andThen_ok, r1, run_sizeOf' _ hs, Sem.run_pure]
    · have hlen : ((xs.drop l).take (hh - l)).length = hh - l := by simp; omega
      subst h
      have hcap : ∀ c', capSub c l = some c' → m - l = c' := by
        intro c' hc'
        unfold capSub at hc'
        cases c with
        | none => simp at hc'
        | some c0 => have := r4 c0 rfl; simp at hc'; omega
      by_cases he : xs = []
      · subst he
        have : hh = 0 := by simpa using hhl
        subst this
        simp only [List.drop_nil, List.take_nil, Nat.zero_sub]
        exact ro_empty hcap
      · have hss : s = sz := by
          simp only [Bool.or_eq_true] at hsz
          rcases hsz with h' | h'
          · exact Nat.eq_of_beq_eq_true h'
          · simp at h'; exact absurd h' he
        subst hss
        obtain ⟨ha, hI⟩ := g3 he
        have hidx : ∀ (i j : Nat) (c : List CV) (x : CV), ((xs.drop l).take (hh - l))[i]? = some c → c[j]? = some x → xs[l + i]? = some c := by
          intro i j c x hi _
          rw [List.getElem?_take] at hi
          split at hi
          · rwa [List.getElem?_drop] at hi
          · simp at hi
        have key := VR.ro (E := E) s ((xs.drop l).take (hh - l)) (capSub c l) (if m = l then a else a.map (·.add (l * s))) (m - l) r (o + l * s) (fun i j => vs (l + i) j)
          (by rw [hlen]; omega) hcap (fun hne => ?_) (fun c hc => g4 c (List.mem_of_mem_drop (List.mem_of_mem_take hc)))
          (fun i j c x hi hj => by
            have := g5 (l + i) j c x (hidx i j c x hi hj) hj
            rwa [show o + l * s + i * s + j = o + (l + i) * s + j by rw [Nat.add_mul]; omega])
          (fun i j c x hi hj => g6 (l + i) j c x (hidx i j c x hi hj) hj)
        · rwa [hlen] at key
        · have : m ≠ l := by
            intro e
            apply hne
            have : hh - l = 0 := by omega
            rw [this]; simp
          rw [if_neg this, ha]
          simp [add_none, hI]
  · next n e b off hu =>
    split at h <;> try (simp at h; done)
    next s blk hs hg =>
    split at h <;> try (simp at h; done)
    next hle =>
    split at h <;> try (simp at h; done)
    next l hh c hb =>
    cases hx with
    | ptr _ _ ad g1 g2 =>
    obtain ⟨m, r1, r2, r3, r4, r5, r6⟩ := cbounds_sound (P := P) (w := E.w) (b := false) (rc := n) h1 h2 h3 (Nat.le_refl _) (Nat.le_refl _) (fun c hc => Option.some.inj hc) hb
    have hm := r4 c rfl
    subst hm
    obtain ⟨r, hr, cc, el, lo', hi', hcc, hf, hsz, _⟩ := hH.get b blk hg
    have hB : bsz E.w r = cc.size := by simp [bsz, hcc]
    have hle' := Nat.le_of_ble_eq_true hle
    refine ⟨.slice (some (if m = l then ad else ad.add (l * s))) (hh - l) (m - l), ?_, ?_⟩
    · simp only [Instr.sliceAt, Instr.sureAddr, Sem.run_bind, run_underlying hu, Result.andThen_ok, r1, run_sizeOf' _ hs, Sem.run_pure]
    · split at h <;> simp only [Option.some.injEq, reduceCtorEq] at h
      · next h0 =>
        have h0' := Nat.eq_of_beq_eq_true h0
        subst h
        rw [show hh - l = 0 by omega]
        exact ro_empty (fun c hc => by simp at hc; omega)
      · next h0 =>
        have h0' : m - l ≠ 0 := fun e => h0 (by rw [e]; rfl)
        subst h
        rw [if_neg (by omega)]
        refine .slice _ _ _ _ _ _ _ g1 (fun r' hr' => ?_) (by omega) (fun c hc => by simpa using hc)
        obtain rfl : r' = r := by rw [hr] at hr'; exact (Option.some.inj hr').symm
        rw [g2 r' hr, add_none]
        exact ⟨rfl, part_le (by omega) r5 (by omega)⟩
  · simp at h

end
end Go.Cn
