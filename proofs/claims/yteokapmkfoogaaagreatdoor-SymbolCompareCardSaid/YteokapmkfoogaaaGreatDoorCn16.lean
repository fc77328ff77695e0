/- The canonical calculus, part 16: a region whose order Go leaves open: all its orders. -/
import Derived.Test.YteokapmkfoogaaaGreatDoorCn15
set_option linter.unusedVariables false
set_option linter.unusedSimpArgs false
noncomputable section
namespace Go.Cn

section
variable {P : Program}

/-! ### one canonical step, by kinds -/
inductive DK (P : Program) (lo : Nat) (ops : Array Oper) (m : Nat) (i : Nat) (o : Oper) (s : DS) : Nat → DS → Prop
  | skip : cwanted ops (selT s.tm (looks ops o)) o.guard = some false → DK P lo ops m i o s 0 { s with tm := cput s.tm o.dst (.tup []) }
  | free (x : CV) : cwanted ops (selT s.tm (looks ops o)) o.guard = some true → OpOk P o (selT s.tm (looks ops o)) [] s.n s.n x [] s.n → DK P lo ops m i o s 0 { s with tm := cput s.tm o.dst x }
  | quiet (x : CV) (H' : CHeap) (n' : Nat) : cwanted ops (selT s.tm (looks ops o)) o.guard = some true → (∀ j ∈ s.l, m.testBit j = true) →
      OpOk P o (selT s.tm (looks ops o)) (selF m s.F ++ s.B) s.n s.n x H' n' → DK P lo ops m i o s 1 ⟨cput s.tm o.dst x, s.B, (i, fresh s.n H') :: s.F, n', i :: s.q, s.l, s.w⟩
  | loud (x : CV) (H' : CHeap) (n' : Nat) : cwanted ops (selT s.tm (looks ops o)) o.guard = some true → (∀ j ∈ s.l, m.testBit j = true) → (∀ j ∈ s.q, m.testBit j = true) →
      OpOk P o (selT s.tm (looks ops o)) (hideAll (atOnce m s.w) (allF s.F ++ s.B)) s.n lo x H' n' →
      DK P lo ops m i o s 2 ⟨cput s.tm o.dst x, keepAll (atOnce m s.w) (allF s.F ++ s.B) ++ H', [], n', [], i :: s.l, s.w⟩
  | watch (x : CV) (c : Nat) (blk : List CV) (H' : CHeap) : cwanted ops (selT s.tm (looks ops o)) o.guard = some true → (∀ j ∈ s.l, m.testBit j = true) → hget s.B c = some blk →
      OpOk P o (selT s.tm (looks ops o)) [(c, blk)] s.n s.n x H' s.n → DK P lo ops m i o s 3 { s with tm := cput s.tm o.dst x, w := (i, c) :: s.w }

theorem dstep_kinds {call : Call} (hS : Sound P call) {N lo : Nat} {ops : Array Oper} {m : Nat} {lt : Bool} {i : Nat} {o : Oper} {s s' : DS} (h : dstep P call N lo ops m lt i o s = some s') : isSmall N o.dst = true ∧ ∃ k, DK P lo ops m i o s k s' := by
  unfold dstep at h
  split at h <;> try (simp at h; done)
  next hs =>
  refine ⟨hs, ?_⟩
  split at h <;> try (simp at h; done)
  · next hw => simp at h; subst h; exact ⟨0, .skip hw⟩
  · next hw =>
    unfold drun at h
    split at h
    · next x n' hc =>
      split at h <;> simp only [Option.some.injEq, reduceCtorEq] at h
      next hn =>
      obtain rfl := Nat.eq_of_beq_eq_true hn
      subst h
      split at hc <;> try (simp at hc; done)
      exact ⟨0, .free x hw (opOk_of hS hc)⟩
    · split at h <;> try (simp at h; done)
      next hl =>
      have hl' : ∀ j ∈ s.l, m.testBit j = true := by simpa [tb_eq] using hl
      split at h
      · next c hc =>
        split at h <;> try (simp at h; done)
        next blk hb =>
        split at h <;> try (simp at h; done)
        next x H' n' hx =>
        split at h <;> simp only [Option.some.injEq, reduceCtorEq] at h
        next hn =>
        obtain rfl := Nat.eq_of_beq_eq_true hn
        subst h
        exact ⟨3, .watch x c blk H' hw hl' hb (opOk_of hS hx)⟩
      · split at h
        · next x H' n' hc =>
          simp at h; subst h
          exact ⟨1, .quiet x H' n' hw hl' (opOk_of hS hc)⟩
        · split at h <;> try (simp at h; done)
          next hq =>
          split at h <;> simp only [Option.some.injEq, reduceCtorEq] at h
          next x H' n' hc =>
          subst h
          simp only [Bool.and_eq_true, List.all_eq_true, tb_eq] at hq
          exact ⟨2, .loud x H' n' hw hl' hq.2 (opOk_of hS hc)⟩

theorem mem_atOnce {m i c : Nat} : ∀ {w : List (Nat × Nat)}, (i, c) ∈ w → m.testBit i ≠ true → c ∈ atOnce m w
  | [], h, _ => by simp at h
  | (j, d) :: w, h, hm => by
    simp only [atOnce]
    rcases List.mem_cons.1 h with h | h
    · cases h
      split
      · next e => rw [tb_eq] at e; exact absurd e hm
      · simp
    · split
      · exact mem_atOnce h hm
      · exact List.mem_cons_of_mem _ (mem_atOnce h hm)

theorem hide_mem {c : Nat} : ∀ {ws : List Nat} {H : CHeap}, c ∈ ws → hget (hideAll ws H) c = none
  | [], _, h => by simp at h
  | d :: ws, H, h => by
    simp only [hideAll, hget_hdel]
    split
    · rfl
    · next e => exact hide_mem ((List.mem_cons.1 h).resolve_left fun e' => e e'.symm)

theorem hide_not {c : Nat} : ∀ {ws : List Nat} {H : CHeap}, c ∉ ws → hget (hideAll ws H) c = hget H c
  | [], _, h => rfl
  | d :: ws, H, h => by
    simp only [List.mem_cons, not_or] at h
    simp only [hideAll, hget_hdel]
    rw [if_neg (fun e => h.1 e.symm)]
    exact hide_not h.2

theorem hide_some {c : Nat} {ws : List Nat} {H : CHeap} {blk : List CV} (h : hget (hideAll ws H) c = some blk) : c ∉ ws ∧ hget H c = some blk := by
  by_cases hc : c ∈ ws
  · rw [hide_mem hc] at h; simp at h
  · exact ⟨hc, by rw [hide_not hc] at h; exact h⟩

theorem keep_mem {c : Nat} : ∀ {ws : List Nat} {H : CHeap}, c ∈ ws → hget (keepAll ws H) c = hget H c
  | [], _, h => by simp at h
  | d :: ws, H, h => by
    simp only [keepAll]
    by_cases e : d = c
    · subst e
      split
      · next hb => rw [hget_cons, if_pos rfl, hb]
      · next hb =>
        by_cases hc : d ∈ ws
        · exact keep_mem hc
        · rw [hb]
          cases hk : hget (keepAll ws H) d with
          | none => rfl
          | some blk =>
            exfalso
            have : ∀ (ws : List Nat), hget (keepAll ws H) d = some blk → hget H d = some blk := by
              intro ws
              induction ws with
              | nil => intro hz; simp [keepAll, hget_nil, hget_cons] at hz
              | cons d' ws ih =>
                intro hz
                simp only [keepAll] at hz
                split at hz
                · next b' hb' =>
                  rw [hget_cons] at hz
                  by_cases e2 : d' = d
                  · rw [if_pos e2] at hz; rw [← e2, hb', hz]
                  · rw [if_neg e2] at hz; exact ih hz
                · exact ih hz
            rw [this ws hk] at hb; simp at hb
    · have hc := (List.mem_cons.1 h).resolve_left fun e' => e e'.symm
      split
      · rw [hget_cons, if_neg e]; exact keep_mem hc
      · exact keep_mem hc

theorem keep_not {c : Nat} : ∀ {ws : List Nat} {H : CHeap}, c ∉ ws → hget (keepAll ws H) c = none
  | [], _, h => rfl
  | d :: ws, H, h => by
    simp only [List.mem_cons, not_or] at h
    simp only [keepAll]
    split
    · rw [hget_cons, if_neg (fun e => h.1 e.symm)]; exact keep_not h.2
    · exact keep_not h.2

theorem keep_some {c : Nat} {ws : List Nat} {H : CHeap} {blk : List CV} (h : hget (keepAll ws H) c = some blk) : c ∈ ws ∧ hget H c = some blk := by
  by_cases hc : c ∈ ws
  · exact ⟨hc, by rw [keep_mem hc] at h; exact h⟩
  · rw [keep_not hc] at h; simp at h

/-- the whole run: D i is the state ahead of operation i -/
structure Trace (P : Program) (N lo : Nat) (ops : Array Oper) (D : Nat → DS) (K : Nat → Nat) : Prop where
  step : ∀ i, i < ops.size → ∃ o, ops[i]? = some o ∧ isSmall N o.dst = true ∧ DK P lo ops (bm ops i) i o (D i) (K i) (D (i + 1))
  q0 : (D 0).q = []
  l0 : (D 0).l = []
  F0 : (D 0).F = []
  keys0 : Keys (D 0).B (D 0).n

theorem dops_trace {call : Call} (hS : Sound P call) {N lo : Nat} {ops : Array Oper} : ∀ (rest : List Oper) (ms : List Nat) (i : Nat) (s s' : DS), dops P call N lo ops rest ms i s = some s' →
    ∃ (D : Nat → DS) (K : Nat → Nat), D i = s ∧ D (i + rest.length) = s' ∧ ∀ k o, rest[k]? = some o → isSmall N o.dst = true ∧ DK P lo ops (ms.getD k 0) (i + k) o (D (i + k)) (K (i + k)) (D (i + k + 1))
  | [], ms, i, s, s', h => by
    simp [dops] at h; subst h
    exact ⟨fun _ => s, fun _ => 0, rfl, rfl, fun k o ho => by simp at ho⟩
  | _ :: _, [], i, s, s', h => by simp [dops] at h
  | o :: rest, m :: ms, i, s, s', h => by
    simp only [dops] at h
    split at h <;> try (simp at h; done)
    next s1 h1 =>
    obtain ⟨D, K, d1, d2, d3⟩ := dops_trace hS rest ms (i + 1) s1 s' h
    obtain ⟨hs, k, hk⟩ := dstep_kinds hS h1
    refine ⟨fun j => if j = i then s else D j, fun j => if j = i then k else K j, by simp, ?_, fun k' o' ho => ?_⟩
    · have : i + (o :: rest).length ≠ i := by simp
      dsimp only
      rw [if_neg this, ← d2]
      congr 1
      simp; omega
    · cases k' with
      | zero =>
        simp at ho; subst ho
        refine ⟨hs, ?_⟩
        simp only [Nat.add_zero, if_true, List.getD_cons_zero]
        rw [if_neg (by omega), d1]
        exact hk
      | succ k' =>
        have := d3 k' o' (by simpa using ho)
        dsimp only
        rw [if_neg (by omega), if_neg (by omega), if_neg (by omega)]
        rw [show i + (k' + 1) = i + 1 + k' by omega]
        simpa using this

section trace
variable {call : Call} {N lo : Nat} {ops : Array Oper} {D : Nat → DS} {K : Nat → Nat}

theorem heap_append (h k : CHeap) (b : Nat) : hget (h ++ k) b = match hget h b with | some x => some x | none => hget k b := by
  induction h with
  | nil => rfl
  | cons p h ih =>
    obtain ⟨c, x⟩ := p
    rw [List.cons_append, hget_cons, hget_cons]
    split
    · rfl
    · exact ih

theorem heap_mem_append {h k : CHeap} {b : Nat} {blk : List CV} (hb : hget (h ++ k) b = some blk) : hget h b = some blk ∨ hget k b = some blk := by
  rw [heap_append] at hb
  cases hh : hget h b with
  | none => rw [hh] at hb; exact .inr hb
  | some x => rw [hh] at hb; exact .inl hb

theorem fresh_get {n : Nat} : ∀ {H : CHeap} {b : Nat} {blk : List CV}, hget (fresh n H) b = some blk → n ≤ b ∧ hget H b = some blk
  | [], b, blk, h => by simp [fresh, hget_nil, hget_cons] at h
  | (c, x) :: H, b, blk, h => by
    simp only [fresh] at h
    split at h
    · next hn =>
      rw [hget_cons] at h ⊢
      split at h
      · next e => subst e; exact ⟨Nat.le_of_ble_eq_true hn, by simpa using h⟩
      · next e => rw [if_neg e]; exact fresh_get h
    · simp [hget_nil, hget_cons] at h

theorem selF_mem {m : Nat} : ∀ {F : List (Nat × CHeap)} {b : Nat} {blk : List CV}, hget (selF m F) b = some blk → ∃ j h, (j, h) ∈ F ∧ m.testBit j = true ∧ hget h b = some blk
  | [], b, blk, h => by simp [selF, hget_nil, hget_cons] at h
  | (j, f) :: F, b, blk, h => by
    simp only [selF] at h
    split at h
    · next hm =>
      rw [tb_eq] at hm
      rcases heap_mem_append h with h | h
      · exact ⟨j, f, by simp, hm, h⟩
      · obtain ⟨j', h', a1, a2, a3⟩ := selF_mem h
        exact ⟨j', h', by simp [a1], a2, a3⟩
    · obtain ⟨j', h', a1, a2, a3⟩ := selF_mem h
      exact ⟨j', h', by simp [a1], a2, a3⟩

theorem allF_mem : ∀ {F : List (Nat × CHeap)} {b : Nat} {blk : List CV}, hget (allF F) b = some blk → ∃ j h, (j, h) ∈ F ∧ hget h b = some blk
  | [], b, blk, h => by simp [allF, hget_nil, hget_cons] at h
  | (j, f) :: F, b, blk, h => by
    simp only [allF] at h
    rcases heap_mem_append h with h | h
    · exact ⟨j, f, by simp, h⟩
    · obtain ⟨j', h', a1, a2⟩ := allF_mem h
      exact ⟨j', h', by simp [a1], a2⟩

theorem selF_hit {m : Nat} {j b : Nat} {f : CHeap} {blk : List CV} : ∀ {F : List (Nat × CHeap)}, (j, f) ∈ F → m.testBit j = true → hget f b = some blk → (∀ j' f', (j', f') ∈ F → j' ≠ j → hget f' b = none) → (∀ f', (j, f') ∈ F → f' = f) →
    hget (selF m F) b = some blk
  | [], h, _, _, _, _ => by simp at h
  | (j0, f0) :: F, h, hm, hg, ho, hs => by
    simp only [selF]
    by_cases e : j0 = j
    · subst e
      obtain rfl := hs f0 (by simp)
      rw [tb_eq, hm]
      simp only
      rw [heap_append, hg]
    · have h' : (j, f) ∈ F := by
        rcases List.mem_cons.1 h with h | h
        · simp at h; exact absurd h.1.symm e
        · exact h
      have ih := selF_hit h' hm hg (fun j' f' hj hn => ho j' f' (by simp [hj]) hn) (fun f' hf => hs f' (by simp [hf]))
      split
      · rw [heap_append, ho j0 f0 (by simp) e]; exact ih
      · exact ih

theorem selF_miss {m b : Nat} {F : List (Nat × CHeap)} (h : ∀ j f, (j, f) ∈ F → hget f b = none) : hget (selF m F) b = none := by
  cases hh : hget (selF m F) b with
  | none => rfl
  | some blk =>
    obtain ⟨j, f, h1, _, h3⟩ := selF_mem hh
    rw [h j f h1] at h3; simp at h3

/-- what operation j has made, where it is a quiet one -/
def piece (D : Nat → DS) (j : Nat) : CHeap := match (D (j + 1)).F with | (_, h) :: _ => h | [] => []

theorem Trace.n_le (h : Trace P N lo ops D K) (hS : Sound P call) {i : Nat} (hi : i < ops.size) : (D i).n ≤ (D (i + 1)).n := by
  obtain ⟨o, _, _, hk⟩ := h.step i hi
  generalize D (i + 1) = s at hk
  generalize K i = k at hk
  cases hk with
  | skip h1 => exact Nat.le_refl _
  | free x h1 h2 => exact Nat.le_refl _
  | watch x c blk H' h1 h2 h3 h4 => exact Nat.le_refl _
  | quiet x H' n' h1 h2 h3 => exact (h3.1).1
  | loud x H' n' h1 h2 h3 h4 => exact (h4.1).1

theorem Trace.n_mono (h : Trace P N lo ops D K) (hS : Sound P call) {i k : Nat} (hik : i ≤ k) (hk : k ≤ ops.size) : (D i).n ≤ (D k).n := by
  induction k with
  | zero => have : i = 0 := by omega
            subst this; exact Nat.le_refl _
  | succ k ih =>
    by_cases e : i = k + 1
    · subst e; exact Nat.le_refl _
    · exact Nat.le_trans (ih (by omega) (by omega)) (h.n_le hS (by omega))

theorem Trace.l_iff (h : Trace P N lo ops D K) {i : Nat} (hi : i ≤ ops.size) (j : Nat) : j ∈ (D i).l ↔ j < i ∧ K j = 2 := by
  induction i with
  | zero => simp [h.l0]
  | succ i ih =>
    obtain ⟨o, _, _, hk⟩ := h.step i (by omega)
    have ih := ih (by omega)
    generalize D (i + 1) = s at hk ⊢
    generalize hki : K i = k at hk
    have hother : (j < i + 1 ∧ K j = 2) ↔ (j = i ∧ k = 2) ∨ (j < i ∧ K j = 2) := by
      constructor
      · rintro ⟨h1, h2⟩
        by_cases e : j = i
        · subst e; exact .inl ⟨rfl, by rw [← hki]; exact h2⟩
        · exact .inr ⟨by omega, h2⟩
      · rintro (⟨rfl, h2⟩ | ⟨h1, h2⟩)
        · exact ⟨by omega, by rw [hki]; exact h2⟩
        · exact ⟨by omega, h2⟩
    rw [hother]
    cases hk with
    | skip h1 => simp [ih]
    | free x h1 h2 => simp [ih]
    | watch x c blk H' h1 h2 h3 h4 => simp [ih]
    | quiet x H' n' h1 h2 h3 => simp [ih]
    | loud x H' n' h1 h2 h3 h4 => simp [ih]

theorem Trace.q_iff (h : Trace P N lo ops D K) {i : Nat} (hi : i ≤ ops.size) (j : Nat) : j ∈ (D i).q ↔ j < i ∧ K j = 1 ∧ ∀ k, j < k → k < i → K k ≠ 2 := by
  induction i with
  | zero => simp [h.q0]
  | succ i ih =>
    obtain ⟨o, _, _, hk⟩ := h.step i (by omega)
    have ih := ih (by omega)
    generalize D (i + 1) = s at hk ⊢
    generalize hki : K i = k at hk
    have hne : K i ≠ 2 → ((∀ k, j < k → k < i + 1 → K k ≠ 2) ↔ (∀ k, j < k → k < i → K k ≠ 2)) := by
      intro hn
      constructor
      · exact fun g k a b => g k a (by omega)
      · intro g k a b
        by_cases e : k = i
        · subst e; exact hn
        · exact g k a (by omega)
    cases hk with
    | skip h1 =>
      show j ∈ (D i).q ↔ _
      rw [ih, hne (by omega)]
      constructor
      · rintro ⟨a, b, c⟩; exact ⟨by omega, b, c⟩
      · rintro ⟨a, b, c⟩
        have : j ≠ i := fun e => by subst e; omega
        exact ⟨by omega, b, c⟩
    | free x h1 h2 =>
      show j ∈ (D i).q ↔ _
      rw [ih, hne (by omega)]
      constructor
      · rintro ⟨a, b, c⟩; exact ⟨by omega, b, c⟩
      · rintro ⟨a, b, c⟩
        have : j ≠ i := fun e => by subst e; omega
        exact ⟨by omega, b, c⟩
    | watch x c blk H' h1 h2 h3 h4 =>
      show j ∈ (D i).q ↔ _
      rw [ih, hne (by omega)]
      constructor
      · rintro ⟨a, b, c⟩; exact ⟨by omega, b, c⟩
      · rintro ⟨a, b, c⟩
        have : j ≠ i := fun e => by subst e; omega
        exact ⟨by omega, b, c⟩
    | quiet x H' n' h1 h2 h3 =>
      simp only [List.mem_cons]
      rw [ih, hne (by omega)]
      constructor
      · rintro (rfl | ⟨a, b, c⟩)
        · exact ⟨by omega, hki, fun k a b => by omega⟩
        · exact ⟨by omega, b, c⟩
      · rintro ⟨a, b, c⟩
        by_cases e : j = i
        · exact .inl e
        · exact .inr ⟨by omega, b, c⟩
    | loud x H' n' h1 h2 h3 h4 =>
      simp only [List.not_mem_nil, false_iff]
      rintro ⟨a, b, c⟩
      by_cases e : j = i
      · subst e; omega
      · exact c i (by omega) (by omega) hki

theorem Trace.F_iff (h : Trace P N lo ops D K) {i : Nat} (hi : i ≤ ops.size) (j : Nat) (f : CHeap) : (j, f) ∈ (D i).F ↔ j ∈ (D i).q ∧ f = piece D j := by
  induction i with
  | zero => simp [h.q0, h.F0]
  | succ i ih =>
    obtain ⟨o, _, _, hk⟩ := h.step i (by omega)
    have ih := ih (by omega)
    have hq := h.q_iff (i := i) (by omega)
    have hp : piece D i = match (D (i + 1)).F with | (_, h) :: _ => h | [] => [] := rfl
    generalize D (i + 1) = s at hk ⊢ hp
    generalize hki : K i = k at hk
    cases hk with
    | skip h1 => exact ih
    | free x h1 h2 => exact ih
    | watch x c blk H' h1 h2 h3 h4 => exact ih
    | quiet x H' n' h1 h2 h3 =>
      simp only [List.mem_cons, Prod.mk.injEq, ih] at hp ⊢
      constructor
      · rintro (⟨rfl, rfl⟩ | ⟨a, b⟩)
        · exact ⟨.inl rfl, hp.symm⟩
        · exact ⟨.inr a, b⟩
      · rintro ⟨rfl | a, b⟩
        · exact .inl ⟨rfl, by rw [b, hp]⟩
        · exact .inr ⟨a, b⟩
    | loud x H' n' h1 h2 h3 h4 => simp

theorem Trace.B_same (h : Trace P N lo ops D K) {p i : Nat} (hpi : p ≤ i) (hi : i ≤ ops.size) (hn : ∀ k, p ≤ k → k < i → K k ≠ 2) : (D i).B = (D p).B := by
  induction i with
  | zero => have : p = 0 := by omega
            subst this; rfl
  | succ i ih =>
    by_cases e : p = i + 1
    · subst e; rfl
    · have ih := ih (by omega) (by omega) (fun k a b => hn k a (by omega))
      obtain ⟨o, _, _, hk⟩ := h.step i (by omega)
      generalize D (i + 1) = s at hk ⊢
      generalize hki : K i = k at hk
      cases hk with
      | skip h1 => exact ih
      | free x h1 h2 => exact ih
      | watch x c blk H' h1 h2 h3 h4 => exact ih
      | quiet x H' n' h1 h2 h3 => exact ih
      | loud x H' n' h1 h2 h3 h4 => exact absurd hki (hn i (by omega) (by omega))

theorem keys_sel {m : Nat} {F : List (Nat × CHeap)} {B : CHeap} {n : Nat} (h : ∀ j f, (j, f) ∈ F → Keys f n) (hB : Keys B n) : Keys (selF m F ++ B) n := by
  intro b blk hb
  rcases heap_mem_append hb with hb | hb
  · obtain ⟨j, f, h1, _, h3⟩ := selF_mem hb
    exact h j f h1 b blk h3
  · exact hB b blk hb

theorem keys_all {F : List (Nat × CHeap)} {B : CHeap} {n : Nat} (h : ∀ j f, (j, f) ∈ F → Keys f n) (hB : Keys B n) : Keys (allF F ++ B) n := by
  intro b blk hb
  rcases heap_mem_append hb with hb | hb
  · obtain ⟨j, f, h1, h3⟩ := allF_mem hb
    exact h j f h1 b blk h3
  · exact hB b blk hb

theorem Keys.mono {H : CHeap} {n n' : Nat} (h : Keys H n) (hn : n ≤ n') : Keys H n' := fun b blk hb => Nat.lt_of_lt_of_le (h b blk hb) hn

theorem Trace.keys (h : Trace P N lo ops D K) (hS : Sound P call) {i : Nat} (hi : i ≤ ops.size) : Keys (D i).B (D i).n ∧ ∀ j f, (j, f) ∈ (D i).F → Keys f (D i).n := by
  induction i with
  | zero => exact ⟨h.keys0, fun j f hf => by simp [h.F0] at hf⟩
  | succ i ih =>
    obtain ⟨hB, hF⟩ := ih (by omega)
    obtain ⟨o, _, _, hk⟩ := h.step i (by omega)
    generalize D (i + 1) = s at hk ⊢
    generalize hki : K i = k at hk
    cases hk with
    | skip h1 => exact ⟨hB, hF⟩
    | free x h1 h2 => exact ⟨hB, hF⟩
    | watch x c blk H' h1 h2 h3 h4 => exact ⟨hB, hF⟩
    | quiet x H' n' h1 h2 h3 =>
      have hkp := h3.1
      have hk' := hkp.2.2 (keys_sel hF hB)
      refine ⟨hB.mono hkp.1, fun j f hf => ?_⟩
      rcases List.mem_cons.1 hf with hf | hf
      · simp at hf
        obtain ⟨rfl, rfl⟩ := hf
        exact fun b blk hb => hk' b blk (fresh_get hb).2
      · exact (hF j f hf).mono hkp.1
    | loud x H' n' h1 h2 h3 h4 =>
      have hkp := h4.1
      refine ⟨fun b blk hb => ?_, fun j f hf => by simp at hf⟩
      rcases heap_mem_append hb with hb | hb
      · exact Nat.lt_of_lt_of_le (keys_all hF hB b blk (keep_some hb).2) hkp.1
      · exact hkp.2.2 (fun b' blk' hb' => keys_all hF hB b' blk' (hide_some hb').2) b blk hb

/-- a piece's numbers are its operation's -/
theorem Trace.piece_keys (h : Trace P N lo ops D K) (hS : Sound P call) {j : Nat} (hj : j < ops.size) (hk1 : K j = 1) {b : Nat} {blk : List CV} (hb : hget (piece D j) b = some blk) : (D j).n ≤ b ∧ b < (D (j + 1)).n := by
  obtain ⟨hB, hF⟩ := h.keys hS (i := j) (by omega)
  obtain ⟨o, _, _, hk⟩ := h.step j hj
  unfold piece at hb
  generalize D (j + 1) = s at hk hb ⊢
  rw [hk1] at hk
  cases hk with
  | quiet x H' n' h1 h2 h3 =>
    have hkp := h3.1
    obtain ⟨a1, a2⟩ := fresh_get hb
    exact ⟨a1, hkp.2.2 (keys_sel hF hB) b blk a2⟩

/-- what is looked at is as it was while no operation that waits for the look has run -/
theorem Trace.watched (h : Trace P N lo ops D K) (hS : Sound P call) {i : Nat} (hi : i < ops.size) (hk3 : K i = 3) : ∃ (o : Oper) (x : CV) (c : Nat) (blk : List CV) (H' : CHeap), ops[i]? = some o ∧ cwanted ops (selT (D i).tm (looks ops o)) o.guard = some true ∧
    (∀ j ∈ (D i).l, (bm ops i).testBit j = true) ∧ hget (D i).B c = some blk ∧ OpOk P o (selT (D i).tm (looks ops o)) [(c, blk)] (D i).n (D i).n x H' ((D i).n) ∧
    D (i + 1) = { D i with tm := cput (D i).tm o.dst x, w := (i, c) :: (D i).w } ∧
    ∀ p, i < p → p ≤ ops.size → (∀ k, i < k → k < p → K k = 2 → (bm ops k).testBit i ≠ true) → (i, c) ∈ (D p).w ∧ hget (D p).B c = some blk := by
  obtain ⟨o, ho, _, hk⟩ := h.step i hi
  generalize hs : D (i + 1) = s at hk
  rw [hk3] at hk
  cases hk with
  | watch x c blk H' h1 h2 h3 h4 =>
  refine ⟨o, x, c, blk, H', ho, h1, h2, h3, h4, rfl, fun p hip hp hn => ?_⟩
  induction p with
  | zero => omega
  | succ p ih =>
    by_cases e : p = i
    · subst e; rw [hs]; exact ⟨by simp, h3⟩
    · obtain ⟨hw, hb⟩ := ih (by omega) (by omega) (fun k a b => hn k a (by omega))
      obtain ⟨o', _, _, hkp⟩ := h.step p (by omega)
      have hnp := hn p (by omega) (by omega)
      generalize D (p + 1) = s' at hkp ⊢
      generalize hkk : K p = k at hkp hnp
      cases hkp with
      | skip g1 => exact ⟨hw, hb⟩
      | free x g1 g2 => exact ⟨hw, hb⟩
      | quiet x H' n' g1 g2 g3 => exact ⟨hw, hb⟩
      | watch x c' blk' H' g1 g2 g3 g4 => exact ⟨List.mem_cons_of_mem _ hw, hb⟩
      | loud x H' n' g1 g2 g3 g4 =>
        refine ⟨hw, ?_⟩
        have hc := mem_atOnce hw (hnp rfl)
        have hnone : hget (allF (D p).F) c = none := by
          cases hh : hget (allF (D p).F) c with
          | none => rfl
          | some blk' =>
            exfalso
            obtain ⟨j, f, a1, a3⟩ := allF_mem hh
            obtain ⟨hq, rfl⟩ := (h.F_iff (by omega) j f).1 a1
            obtain ⟨q1, q2, q3⟩ := (h.q_iff (by omega) j).1 hq
            have hpk := h.piece_keys hS (by omega) q2 a3
            have hsame := h.B_same (p := j) (i := p) (by omega) (by omega) (fun k a b => by
              by_cases e : k = j
              · subst e; omega
              · exact q3 k (by omega) b)
            rw [hsame] at hb
            have := (h.keys hS (i := j) (by omega)).1 c blk hb
            omega
        show hget (keepAll _ _ ++ _) c = _
        rw [heap_append, keep_mem hc, heap_append, hnone]
        simp only [hb]

theorem Trace.tm_same (h : Trace P N lo ops D K) {t i k : Nat} (hik : i ≤ k) (hk : k ≤ ops.size) (hn : ∀ j o, i ≤ j → j < k → ops[j]? = some o → o.dst ≠ some t) : tget (D k).tm t = tget (D i).tm t := by
  induction k with
  | zero => have : i = 0 := by omega
            subst this; rfl
  | succ k ih =>
    by_cases e : i = k + 1
    · subst e; rfl
    · rw [← ih (by omega) (by omega) (fun j o a b => hn j o a (by omega))]
      obtain ⟨o, ho, _, hkk⟩ := h.step k (by omega)
      have hd := hn k o (by omega) (by omega) ho
      have hput : ∀ x, tget (cput (D k).tm o.dst x) t = tget (D k).tm t := by
        intro x
        cases hdd : o.dst with
        | none => rfl
        | some d =>
          have : d ≠ t := fun e => hd (by rw [hdd, e])
          simp [cput, tget_nil, tget_cons, this]
      generalize D (k + 1) = s at hkk ⊢
      generalize K k = kk at hkk
      cases hkk with
      | skip h1 => exact hput _
      | free x h1 h2 => exact hput _
      | watch x c blk H' h1 h2 h3 h4 => exact hput _
      | quiet x H' n' h1 h2 h3 => exact hput _
      | loud x H' n' h1 h2 h3 h4 => exact hput _

end trace
end
end Go.Cn
