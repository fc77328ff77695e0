/- The canonical calculus, part 7: append, copy, conversions. -/
import Derived.Test.YteokapmkfoogaaaGreatDoorCn6
set_option linter.unusedVariables false
set_option linter.unusedSimpArgs false
noncomputable section
namespace Go.Cn

section
variable {P : Program}

/-! ### writing into a block, whatever of it is named -/
theorem run_storeRaw {r o : Nat} {elem : TypeId} {lo hi : Nat} (vs : List Value) : ∀ {w : World} {i : Nat} {c : Array Value}, w.heap[r]? = some (.cells c elem (lo, hi)) → (hi ≤ lo ∨ c.size ≤ lo) → o + i + vs.length ≤ c.size →
    vs.all Value.oneCell' = true → ∃ w' c', (storeCells ⟨r, o, none⟩ vs i).run P w = .ok () w' ∧ w'.heap.size = w.heap.size ∧ (∀ r', r' ≠ r → w'.heap[r']? = w.heap[r']?) ∧
      w'.heap[r]? = some (.cells c' elem (lo, hi)) ∧ c'.size = c.size ∧ (∀ j, j < o + i ∨ o + i + vs.length ≤ j → c'[j]? = c[j]?) ∧ (∀ j, j < vs.length → c'[o + i + j]? = vs[j]?) ∧ SameIO w w' := by
  induction vs with
  | nil => intro w i c hc _ _ _; exact ⟨w, c, by simp [storeCells], rfl, fun _ _ => rfl, hc, rfl, fun _ _ => rfl, fun j hj => by simp at hj, .refl _⟩
  | cons v vs ih =>
    intro w i c hc hf hle hone
    simp only [List.length_cons] at hle
    simp only [List.all_cons, Bool.and_eq_true] at hone
    have hlt : o + i < c.size := by omega
    have hcell : w.cell? ⟨r, o + i, none⟩ = some c[o + i] := by simp [World.cell?, hc, hlt]
    have hfz : w.frozen? ⟨r, o + i, none⟩ = false := by simp only [World.frozen?, hc]; simp; omega
    obtain ⟨w', c', h1, h2, h3, h4, h5, h6, h7, h8⟩ := ih (w := w.setCell ⟨r, o + i, none⟩ v) (i := i + 1) (c := c.setIfInBounds (o + i) v) (set_heap_same hc) (by simpa using hf) (by simp; omega) hone.2
    refine ⟨w', c', ?_, by rw [h2, set_size], fun r' hr' => by rw [h3 r' hr', set_heap hr'], h4, by simpa using h5, fun j hj => ?_, fun j hj => ?_, h8⟩
    · simp only [storeCells, Sem.run_bind, add_none, run_store P w _ v _ hone.1, hcell, hfz]
      simp only [Bool.false_eq_true, if_false, Result.andThen_ok]
      exact h1
    · simp only [List.length_cons] at hj
      rw [h6 j (by omega), Array.getElem?_setIfInBounds_ne (by omega)]
    · cases j with
      | zero => rw [Nat.add_zero, h6 (o + i) (by omega), Array.getElem?_setIfInBounds_self_of_lt hlt]; rfl
      | succ j =>
        simp only [List.length_cons] at hj
        have := h7 j (by omega)
        rw [show o + i + (j + 1) = o + (i + 1) + j by omega, this]; rfl

/-- a block of the world has new cells; it gets a new number -/
def Env.renew (E : Env) (k b r : Nat) (w' : World) : Env :=
  { ρ := fun x => if x = k then some r else E.ρ x, L := fun x => x = k ∨ (E.L x ∧ x ≠ b), I := E.I, w := w' }

theorem renew_ex {E : Env} {H : CHeap} {k b r : Nat} {w' : World} (h : HR E H) (hk : ¬ E.U k) (hlb : E.L b) (hb : E.ρ b = some r) (hs : w'.heap.size = E.w.heap.size) (ho : ∀ r', r' ≠ r → w'.heap[r']? = E.w.heap[r']?)
    (hz : bsz E.w r ≤ bsz w' r) (hio : SameIO E.w w') : Ex E (E.renew k b r w') where
  io := hio
  fwd x y hy := by
    have : x ≠ k := fun e => hk (U_iff.2 ⟨y, e ▸ hy⟩)
    simpa [Env.renew, this] using hy
  L x hx hl := by
    rcases hl with rfl | hl
    · exact absurd hx hk
    · exact hl.1
  I y hy := ⟨hy, ho y (fun e => (h.lt b r hlb hb).1 (e ▸ hy))⟩
  sz y := by
    by_cases e : y = r
    · subst e; exact hz
    · show bsz E.w y ≤ bsz w' y
      unfold bsz
      rw [ho y e]
      exact Nat.le_refl _
  grow := by simp [Env.renew, hs]
  out y hy hn := by
    have hne : y ≠ r := fun e => hn b hlb (e ▸ hb)
    refine ⟨ho y hne, fun x hl hx => ?_⟩
    simp only [Env.renew] at hx hl
    split at hx
    · simp at hx; exact hne hx.symm
    · next e => exact hn x (hl.resolve_left e).1 hx
  newI y hy := .inl hy

theorem renew_hr {E : Env} {H : CHeap} {k b r : Nat} {w' : World} {blk : List CV} {c' : Array Value} {elem lo hi : Nat} (h : HR E H) (hk : ¬ E.U k) (hlb : E.L b) (hb : E.ρ b = some r) (hs : w'.heap.size = E.w.heap.size) (hio : SameIO E.w w')
    (ho : ∀ r', r' ≠ r → w'.heap[r']? = E.w.heap[r']?) (hc : w'.heap[r]? = some (.cells c' elem (lo, hi))) (hf : hi ≤ lo ∨ c'.size ≤ lo) (hl : blk.length ≤ c'.size) (hz : bsz E.w r ≤ c'.size)
    (hv : ∀ (j : Nat) x v, blk[j]? = some x → c'[j]? = some v → VR E x v) : HR (E.renew k b r w') ((k, blk) :: hdel H b) where
  get x bl hx := by
    have hex := renew_ex (w' := w') h hk hlb hb hs ho (by simp [bsz, hc] at hz ⊢; exact hz) hio
    rw [hget_cons, hget_hdel] at hx
    by_cases e : x = k
    · subst e
      simp at hx
      subst hx
      exact ⟨r, by simp [Env.renew], c', elem, lo, hi, hc, hf, hl, fun j x v h1 h2 => (hv j x v h1 h2).mono hex⟩
    · have : ¬ k = x := fun h => e h.symm
      rw [if_neg this] at hx
      split at hx
      · simp at hx
      · next hne =>
        obtain ⟨r', hr', cc, el, lo', hi', hcc, hff, hss, hxx⟩ := h.get x bl hx
        have hne' : r' ≠ r := fun e' => hne (h.inj b x r hlb (h.live x bl hx) hb (by rw [hr', e']))
        refine ⟨r', ?_, cc, el, lo', hi', (ho r' hne').trans hcc, hff, hss, fun j x v h1 h2 => (hxx j x v h1 h2).mono hex⟩
        simp only [Env.renew]
        rw [if_neg e]
        exact hr'
  live x bl hx := by
    rw [hget_cons, hget_hdel] at hx
    by_cases e : x = k
    · exact .inl e
    · rw [if_neg (fun h => e h.symm)] at hx
      split at hx
      · simp at hx
      · next hne => exact .inr ⟨h.live x bl hx, fun e' => hne e'.symm⟩
  inj x x' y l l' hx hx' := by
    simp only [Env.renew] at hx hx' l l'
    split at hx
    · next e =>
      have hx := Option.some.inj hx
      split at hx'
      · next e' => rw [e, e']
      · next e' =>
        obtain ⟨m1, m2⟩ := l'.resolve_left e'
        exact absurd (h.inj b x' r hlb m1 hb (by rw [hx', hx])) (fun e => m2 e.symm)
    · next e =>
      obtain ⟨m1, m2⟩ := l.resolve_left e
      split at hx'
      · have hx' := Option.some.inj hx'
        exact absurd (h.inj b x r hlb m1 hb (by rw [hx, hx'])) (fun e => m2 e.symm)
      · next e' => exact h.inj x x' y m1 (l'.resolve_left e').1 hx hx'
  lt x y l hx := by
    simp only [Env.renew] at hx l ⊢
    split at hx
    · next e =>
      simp at hx; subst hx
      obtain ⟨h2, h3⟩ := h.lt b r hlb hb
      exact ⟨h2, by omega⟩
    · next e =>
      obtain ⟨h2, h3⟩ := h.lt x y (l.resolve_left e).1 hx
      exact ⟨h2, by omega⟩
  Ilt y hy := by simp only [Env.renew]; rw [hs]; exact h.Ilt y hy

theorem renew_ub {E : Env} {k b r : Nat} {w' : World} : UB E (E.renew k b r w') k (k + 1) := fun x hx => by
  by_cases e : x = k
  · exact .inr ⟨by omega, by omega⟩
  · refine .inl ?_
    simpa [Env.U, Env.renew, e] using hx

/-- one answer more is drawn -/
def Env.draw (E : Env) : Env := { E with w := { E.w with drawn := E.w.drawn + 1 } }

theorem draw_ex (E : Env) : Ex E E.draw :=
  ⟨fun _ _ h => h, fun _ _ h => h, fun _ h => ⟨h, rfl⟩, fun _ => Nat.le_refl _, Nat.le_refl _, fun _ _ h => ⟨rfl, h⟩, fun _ h => .inl h, ⟨rfl, rfl, rfl⟩⟩

theorem draw_hr {E : Env} {H : CHeap} (h : HR E H) : HR E.draw H where
  get b blk hb := by
    obtain ⟨r, hr, c, el, lo, hi, hc, hf, hs, hx⟩ := h.get b blk hb
    exact ⟨r, hr, c, el, lo, hi, hc, hf, hs, fun j x v h1 h2 => (hx j x v h1 h2).mono (draw_ex E)⟩
  live := h.live
  inj := h.inj
  lt := h.lt
  Ilt := h.Ilt

/-- a block is given up -/
def Env.kill (E : Env) (b : Nat) : Env := { E with L := fun x => E.L x ∧ x ≠ b }

theorem kill_ex (E : Env) (b : Nat) : Ex E (E.kill b) where
  fwd _ _ h := h
  L _ _ h := h.1
  I r hr := ⟨hr, rfl⟩
  sz r := Nat.le_refl _
  grow := Nat.le_refl _
  out r hr hn := ⟨rfl, fun x hl hx => hn x hl.1 hx⟩
  newI r hr := .inl hr
  io := ⟨rfl, rfl, rfl⟩

theorem kill_hr {E : Env} {H : CHeap} (h : HR E H) (b : Nat) : HR (E.kill b) (hdel H b) where
  get x blk hx := by
    rw [hget_hdel] at hx
    split at hx <;> try (simp at hx; done)
    next e =>
    obtain ⟨r, hr, c, el, lo, hi, hc, hf, hs, hxx⟩ := h.get x blk hx
    exact ⟨r, hr, c, el, lo, hi, hc, hf, hs, fun j x v h1 h2 => (hxx j x v h1 h2).mono (kill_ex E b)⟩
  live x blk hx := by
    rw [hget_hdel] at hx
    split at hx <;> try (simp at hx; done)
    next e => exact ⟨h.live x blk hx, fun e' => e e'.symm⟩
  inj x x' y l l' hx hx' := h.inj x x' y l.1 l'.1 hx hx'
  lt x y l hx := h.lt x y l.1 hx
  Ilt := h.Ilt

/-! ### the elements of a slice or a string -/
theorem lies_append {E : Env} {xs ys : List CV} {r o : Nat} (h1 : Lies E xs r o) (h2 : Lies E ys r (o + xs.length)) : Lies E (xs ++ ys) r o := by
  obtain ⟨vs, a1, a2⟩ := h1
  obtain ⟨us, b1, b2⟩ := h2
  refine ⟨fun j => if j < xs.length then vs j else us (j - xs.length), fun j x hj => ?_, fun j x hj => ?_⟩ <;>
  · rw [List.getElem?_append] at hj
    split at hj
    · next hlt => simp only [hlt, if_true]; first | exact a1 j x hj | exact a2 j x hj
    · next hlt =>
      simp only [hlt, if_false]
      first
      | exact b2 _ x hj
      | (have := b1 _ x hj; rwa [show o + xs.length + (j - xs.length) = o + j by omega] at this)

theorem lies_nil {E : Env} {r o : Nat} : Lies E [] r o := ⟨fun _ => undef, fun j x h => by simp at h, fun j x h => by simp at h⟩

theorem lies_flatten {E : Env} {sz r : Nat} : ∀ (xs : List (List CV)) (o : Nat) (vs : Nat → Nat → Value), (∀ c ∈ xs, c.length = sz) →
    (∀ (i j : Nat) c x, xs[i]? = some c → c[j]? = some x → E.w.cell? ⟨r, o + i * sz + j, none⟩ = some (vs i j)) → (∀ (i j : Nat) c x, xs[i]? = some c → c[j]? = some x → VR E x (vs i j)) → Lies E xs.flatten r o := by
  intro xs
  induction xs with
  | nil => intro o vs _ _ _; exact lies_nil
  | cons c xs ih =>
    intro o vs h1 h2 h3
    have hc : c.length = sz := h1 c (by simp)
    refine lies_append ⟨fun j => vs 0 j, fun j x hj => ?_, fun j x hj => h3 0 j c x rfl hj⟩ ?_
    · have := h2 0 j c x rfl hj
      simpa using this
    · refine ih (o + c.length) (fun i j => vs (i + 1) j) (fun c hc => h1 c (by simp [hc])) (fun i j c' x hi hj => ?_) (fun i j c' x hi hj => h3 (i + 1) j c' x (by simpa using hi) hj)
      have := h2 (i + 1) j c' x (by simpa using hi) hj
      rwa [hc, show o + sz + i * sz + j = o + (i + 1) * sz + j by rw [Nat.add_mul]; omega]

theorem flatten_len {sz : Nat} : ∀ (xs : List (List CV)), (∀ c ∈ xs, c.length = sz) → xs.flatten.length = xs.length * sz := by
  intro xs
  induction xs with
  | nil => intro _; simp
  | cons c xs ih =>
    intro h
    rw [List.flatten_cons, List.length_append, ih (fun c hc => h c (by simp [hc])), h c (by simp), List.length_cons, Nat.add_mul]
    omega

theorem rel_take {E : Env} {cells : List CV} {vs : Array Value} {n : Nat} (h : ∀ (j : Nat) x v, cells[j]? = some x → vs[j]? = some v → VR E x v) :
    ∀ (j : Nat) x v, (cells.take n)[j]? = some x → vs[j]? = some v → VR E x v := by
  intro j x v hx hv
  rw [List.getElem?_take] at hx
  split at hx
  · exact h j x v hx hv
  · simp at hx

/-- what 'append' and 'copy' read of their last argument -/
theorem celems_sound {E : Env} {H : CHeap} (hH : HR E H) {y : CV} {u : Value} {ysz k : Nat} {cells : List CV} (hy : VR E y u) (h : celems H y = some (ysz, k, cells)) :
    (Builtin.lenOf u).run P E.w = .ok k E.w ∧ cells.length = k * ysz ∧ ∀ sz m, m ≤ k → (sz = ysz ∨ k = 0) → ∃ vs : Array Value, (Builtin.firstCells sz m u).run P E.w = .ok vs E.w ∧ vs.size = m * sz ∧
      ∀ (j : Nat) x v, (cells.take (m * sz))[j]? = some x → vs[j]? = some v → VR E x v := by
  unfold celems at h
  split at h
  · next sz0 b off len cap =>
    split at h <;> try (simp at h; done)
    next blk hg =>
    split at h <;> simp only [Option.some.injEq, reduceCtorEq, Prod.mk.injEq] at h
    next hle =>
    obtain ⟨rfl, rfl, rfl⟩ := h
    have hle' := Nat.le_of_ble_eq_true hle
    obtain ⟨r, hr, hbr⟩ := hH.get b blk hg
    cases hy with
    | slice _ _ _ _ _ ad cap' g1 g2 g3 g4 =>
    obtain ⟨rfl, _⟩ := g2 r hr
    refine ⟨by simp [Builtin.lenOf], by simp; omega, fun sz m hm hsz => ?_⟩
    rcases hsz with rfl | h0
    · have hms : m * sz ≤ len * sz := Nat.mul_le_mul_right sz hm
      obtain ⟨vs, h1, h2, h3⟩ := run_lies (P := P) (lies_take (m * sz) (lies_drop off (lies_of_br hbr)))
      have hlen : ((blk.drop off).take (m * sz)).length = m * sz := by simp; omega
      rw [hlen] at h1 h2
      rw [Nat.zero_add] at h1
      refine ⟨vs, by simp [Builtin.firstCells, h1], h2, fun j x v hx hv => h3 j x v ?_ hv⟩
      rwa [List.take_take, Nat.min_eq_left hms] at hx
    · subst h0
      obtain rfl : m = 0 := by omega
      exact ⟨#[], by simp [Builtin.firstCells, loadCells, loadCellsFrom], by simp, fun j x v hx hv => by simp at hx⟩
  · next sz0 xs cap =>
    simp only [Option.some.injEq, Prod.mk.injEq] at h
    obtain ⟨rfl, rfl, rfl⟩ := h
    cases hy with
    | ro _ _ _ a cap' r o vs g1 g2 g3 g4 g5 g6 =>
    refine ⟨by simp [Builtin.lenOf], flatten_len xs g4, fun sz m hm hsz => ?_⟩
    by_cases he : xs = []
    · subst he
      obtain rfl : m = 0 := by simpa using hm
      cases a <;> exact ⟨#[], by simp [Builtin.firstCells, loadCells, loadCellsFrom], by simp, fun j x v hx hv => by simp at hx⟩
    · obtain ⟨rfl, hI⟩ := g3 he
      have hsz' : sz = sz0 := by
        rcases hsz with h | h
        · exact h
        · exact absurd (List.length_eq_zero_iff.1 h) he
      subst hsz'
      have hms : m * sz ≤ xs.length * sz := Nat.mul_le_mul_right sz hm
      obtain ⟨ws, h1, h2, h3⟩ := run_lies (P := P) (lies_take (m * sz) (lies_flatten xs o vs g4 g5 g6))
      have hlen : (xs.flatten.take (m * sz)).length = m * sz := by rw [List.length_take, flatten_len xs g4]; omega
      rw [hlen] at h1 h2
      exact ⟨ws, by simp [Builtin.firstCells, h1], h2, h3⟩
  · next s =>
    simp only [Option.some.injEq, Prod.mk.injEq] at h
    obtain ⟨rfl, rfl, rfl⟩ := h
    cases hy
    have hsz : ByteArray.size ⟨⟨s⟩⟩ = s.length := by simp [ByteArray.size]
    refine ⟨by simp [Builtin.lenOf, hsz], by simp, fun sz m hm hsz' => ?_⟩
    have hex : ((⟨⟨s⟩⟩ : ByteArray).extract 0 m).data = ⟨s.take m⟩ := by
      rw [ByteArray.data_extract]
      simp
    refine ⟨⟨(s.take m).map fun b => .int .u8 b.toNat⟩, by simp [Builtin.firstCells, hex], ?_, fun j x v hx hv => ?_⟩
    · rcases hsz' with rfl | h0
      · simp; omega
      · obtain rfl : m = 0 := by omega
        simp
    · rw [List.getElem?_take] at hx
      split at hx <;> try (simp at hx; done)
      simp only [List.getElem?_toArray, List.getElem?_map, List.getElem?_take] at hx hv
      split at hv <;> try (simp at hv; done)
      cases hj : s[j]? with
      | none => simp [hj] at hx
      | some b => simp [hj] at hx hv; subst hx; subst hv; exact .int _ _
  · simp at h

end
end Go.Cn
