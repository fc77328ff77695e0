/- The canonical calculus: from a row's arguments to canonical data, and back to the row. -/
import Derived.Test.YteokapmkfoogaaaGreatDoorCk4
import Derived.OpenShut
import Derived.ChangeArms
import Derived.Carry
import Derived.Below
import Derived.SizedLaws
set_option linter.unusedVariables false
set_option linter.unusedSimpArgs false
noncomputable section
namespace Go.Cn

/-- a world in which all that lies there is read-only -/
def Env.of (W : World) : Env := { ρ := fun _ => none, L := fun _ => False, I := fun r => r < W.heap.size, w := W }

theorem base_of (W : World) : Base (Env.of W) := ⟨fun _ _ _ l => l.elim, fun _ _ l => l.elim, fun _ h => h⟩

/-- the cells of a datum of a plain type -/
def Dat (P : Program) : Nat → TypeId → List CV → Prop
  | 0, _, _ => False
  | f + 1, t, cs => match P.underlying t with
    | some .bool => ∃ b, cs = [.bool b]
    | some (.int k) => ∃ n, cs = [.int k n] ∧ k.min ≤ n ∧ n ≤ k.max
    | some .string => ∃ s : List UInt8, cs = [.str s] ∧ s.length ≤ maxLen
    | some (.slice e) => ∃ rows : List (List CV), cs = [.ro (P.cellsOf e) rows none] ∧ rows.length ≤ maxLen ∧ ∀ r ∈ rows, Dat P f e r
    | some (.struct fs) => cs.length = P.cellsOf t ∧ ∀ fd ∈ fs.toList, Dat P f fd.type ((cs.drop fd.offset).take (P.cellsOf fd.type))
    | some (.array n e) => cs.length = P.cellsOf t ∧ ∀ i, i < n → Dat P f e ((cs.drop (i * P.cellsOf e)).take (P.cellsOf e))
    | _ => False

def contig (P : Program) : List Field → Nat → Nat → Bool
  | [], off, total => Nat.beq off total
  | f :: r, off, total => Nat.beq f.offset off && contig P r (off + P.cellsOf f.type) total

/-- types without pointers, functions, maps and their like -/
def plainT (P : Program) : Nat → TypeId → Bool
  | 0, _ => false
  | m + 1, t => match P.underlying t with
    | some .bool => true
    | some (.int _) => true
    | some .string => true
    | some (.slice e) => Nat.blt 0 (P.cellsOf e) && plainT P m e
    | some (.struct fs) => contig P fs.toList 0 (P.cellsOf t) && fs.toList.all fun f => plainT P m f.type
    | some (.array n e) => Nat.beq (n * P.cellsOf e) (P.cellsOf t) && plainT P m e
    | _ => false

def CVs (E : Env) (cs : List CV) (vs : List Value) : Prop := cs.length = vs.length ∧ ∀ (i : Nat) x v, cs[i]? = some x → vs[i]? = some v → VR E x v

theorem cvs_append {E : Env} {a b : List CV} {u v : List Value} (h1 : CVs E a u) (h2 : CVs E b v) : CVs E (a ++ b) (u ++ v) := by
  refine ⟨by simp [h1.1, h2.1], fun i x w hx hw => ?_⟩
  rw [List.getElem?_append] at hx hw
  rw [← h1.1] at hw
  split at hx
  · next hlt => rw [if_pos hlt] at hw; exact h1.2 i x w hx hw
  · next hlt => rw [if_neg hlt] at hw; exact h2.2 _ x w hx hw

section
variable {H : Type} {enc : TypeId × Value → H} {P : Program} {W : World} {base : Nat} {spare : Nat → Bool} {held : Bool}

theorem struct_dat {m : Nat} {E : Env} (vs : List Value) : ∀ (fs : List Field) (off total : Nat), contig P fs off total = true → off ≤ total → vs.length = total →
    (∀ fd ∈ fs, ∃ cs, Dat P m fd.type cs ∧ CVs E cs ((vs.drop fd.offset).take (P.cellsOf fd.type))) →
    ∃ cs, cs.length = total - off ∧ CVs E cs (vs.drop off) ∧ ∀ (pre : List CV), pre.length = off → ∀ fd ∈ fs, Dat P m fd.type (((pre ++ cs).drop fd.offset).take (P.cellsOf fd.type))
  | [], off, total, hc, ho, hl, h => by
    have e := Nat.eq_of_beq_eq_true hc
    subst e
    refine ⟨[], by simp, ⟨by simp; omega, fun i x v hx => by simp at hx⟩, fun pre hp fd hf => by simp at hf⟩
  | f :: r, off, total, hc, ho, hl, h => by
    simp only [contig, Bool.and_eq_true] at hc
    have e := Nat.eq_of_beq_eq_true hc.1
    obtain ⟨c1, d1, v1⟩ := h f (by simp)
    have hle : off + P.cellsOf f.type ≤ total := by
      have : ∀ (r : List Field) (o : Nat), contig P r o total = true → o ≤ total := by
        intro r
        induction r with
        | nil => intro o h; have := Nat.eq_of_beq_eq_true h; omega
        | cons f r ih => intro o h; simp only [contig, Bool.and_eq_true] at h; have := ih _ h.2; omega
      exact this r _ hc.2
    obtain ⟨c2, l2, v2, d2⟩ := struct_dat vs r (off + P.cellsOf f.type) total hc.2 hle hl (fun fd hf => h fd (by simp [hf]))
    have hl1 : c1.length = P.cellsOf f.type := by rw [v1.1]; simp; omega
    refine ⟨c1 ++ c2, by simp [hl1, l2]; omega, ?_, fun pre hp fd hf => ?_⟩
    · have := cvs_append v1 v2
      rw [e] at this
      have e2 : List.take (P.cellsOf f.type) (List.drop off vs) ++ List.drop (off + P.cellsOf f.type) vs = List.drop off vs := by
        rw [← List.drop_drop, List.take_append_drop]
      rwa [e2] at this
    · rcases List.mem_cons.1 hf with rfl | hf
      · rw [e, ← hp, List.drop_left, ← hl1, List.take_left]
        exact d1
      · rw [← List.append_assoc]
        exact d2 (pre ++ c1) (by simp [hp, hl1]) fd hf

theorem array_dat {m : Nat} {E : Env} {sz : Nat} {e : TypeId} : ∀ (n : Nat) (vs : List Value), vs.length = n * sz → (∀ i, i < n → ∃ cs, Dat P m e cs ∧ CVs E cs ((vs.drop (i * sz)).take sz)) →
    ∃ cs, CVs E cs vs ∧ ∀ i, i < n → Dat P m e ((cs.drop (i * sz)).take sz) := by
  intro n
  induction n with
  | zero => exact fun vs hl h => ⟨[], ⟨by simp at hl; simp [hl], fun i x v hx => by simp at hx⟩, fun i hi => by omega⟩
  | succ n ih =>
    intro vs hl h
    have hl' : vs.length = n * sz + sz := by rw [hl, Nat.add_mul, Nat.one_mul]
    obtain ⟨c1, v1, d1⟩ := ih (vs.take (n * sz)) (by rw [List.length_take, hl']; omega) (fun i hi => by
      obtain ⟨cs, h1, h2⟩ := h i (by omega)
      refine ⟨cs, h1, ?_⟩
      have hle : i * sz + sz ≤ n * sz := by
        calc i * sz + sz = (i + 1) * sz := by rw [Nat.add_mul, Nat.one_mul]
          _ ≤ n * sz := Nat.mul_le_mul_right sz hi
      rw [List.drop_take, List.take_take, Nat.min_eq_left (by omega)]
      exact h2)
    obtain ⟨c2, d2, v2⟩ := h n (by omega)
    have hl1 : c1.length = n * sz := by rw [v1.1]; simp; omega
    refine ⟨c1 ++ c2, ?_, fun i hi => ?_⟩
    · have := cvs_append v1 v2
      have e2 : List.take (n * sz) vs ++ List.take sz (List.drop (n * sz) vs) = vs := by
        rw [List.take_of_length_le (l := List.drop (n * sz) vs) (by simp; omega), List.take_append_drop]
      rwa [e2] at this
    · by_cases hin : i < n
      · have hle : i * sz + sz ≤ n * sz := by
          calc i * sz + sz = (i + 1) * sz := by rw [Nat.add_mul, Nat.one_mul]
            _ ≤ n * sz := Nat.mul_le_mul_right sz hin
        have := d1 i hin
        rw [List.drop_append_of_le_length (by omega), List.take_append_of_le_length (by simp; omega)]
        exact this
      · have e : i = n := by omega
        subst e
        have hl2 : c2.length = sz := by rw [v2.1]; simp; omega
        rw [← hl1, List.drop_left, ← hl2, List.take_length]
        exact d2

theorem dat_of : ∀ (m : Nat) (t : TypeId), plainT P m t = true → ∀ (n : Nat) (vs : List Value) (x : DataW H × List MemPlace), DataW.trod enc P W base spare held n t vs = some x → ∃ cs, Dat P m t cs ∧ CVs (Env.of W) cs vs
  | 0, t, hp, n, vs, x, h => by simp [plainT] at hp
  | m + 1, t, hp, n, vs, x, h => by
    simp only [plainT] at hp
    split at hp
    · next hu =>
      obtain ⟨b, rfl, _⟩ := DataW.trod_bool hu h
      refine ⟨[.bool b], by simp only [Dat, hu]; exact ⟨b, rfl⟩, rfl, fun i y v hy hv => ?_⟩
      cases i with
      | zero => simp at hy hv; subst hy; subst hv; exact .bool b
      | succ i => simp at hy
    · next k hu =>
      obtain ⟨z, rfl, _, hw⟩ := DataW.trod_int hu h
      simp only [Lit.wf, Bool.and_eq_true, decide_eq_true_eq] at hw
      refine ⟨[.int k z], by simp only [Dat, hu]; exact ⟨z, rfl, hw.1, hw.2⟩, rfl, fun i y v hy hv => ?_⟩
      cases i with
      | zero => simp at hy hv; subst hy; subst hv; exact .int k z
      | succ i => simp at hy
    · next hu =>
      obtain ⟨s, rfl, _, hs⟩ := DataW.trod_string hu h
      refine ⟨[.str s.data.toList], by simp only [Dat, hu]; exact ⟨_, rfl, by simpa using hs⟩, rfl, fun i y v hy hv => ?_⟩
      cases i with
      | zero => simp at hy hv; subst hy; subst hv; exact .str s.data.toList
      | succ i => simp at hy
    · next e hu =>
      simp only [Bool.and_eq_true, Nat.blt_eq] at hp
      rcases DataW.trod_slice hu h with ⟨rfl, _⟩ | ⟨a, len, cap, elems, rest, n', _, rfl, _, hb, hl, hm, hlen, hel, _, _⟩
      · refine ⟨[.ro (P.cellsOf e) [] none], by simp only [Dat, hu]; exact ⟨[], rfl, by simp [maxLen], fun r hr => by simp at hr⟩, rfl, fun i y v hy hv => ?_⟩
        cases i with
        | zero =>
          simp at hy hv; subst hy; subst hv
          exact .ro _ [] none none 0 0 0 (fun _ _ => undef) (Nat.le_refl _) (fun c hc => by simp at hc) (fun h => absurd rfl h) (fun c hc => by simp at hc) (fun i j c x hi => by simp at hi) (fun i j c x hi => by simp at hi)
        | succ i => simp at hy
      · have each : ∀ i, i < len → ∃ c, Dat P m e c ∧ c.length = P.cellsOf e ∧ a.spot = none ∧ a.block < W.heap.size ∧ ∀ (j : Nat) y, c[j]? = some y → ∃ v, W.cell? ⟨a.block, a.off + i * P.cellsOf e + j, none⟩ = some v ∧ VR (Env.of W) y v := by
          intro i hi
          have h1 := hel i hi
          have hlt : i < elems.length := by omega
          rw [List.getElem?_eq_getElem hlt, Option.bind_eq_some_iff] at h1
          obtain ⟨cs', hcs, ht⟩ := h1
          obtain ⟨c, hd, hcv⟩ := dat_of m e hp.2 n' cs' _ ht
          obtain ⟨_, hlen', hcell⟩ := World.cells?_some hcs
          have h0 := hcell 0 hp.1
          have hspot : ((a.add (i * P.cellsOf e)).add 0).spot = none ∧ (a.add (i * P.cellsOf e)).block < W.heap.size := by
            have hz : (a.add (i * P.cellsOf e)).add 0 = a.add (i * P.cellsOf e) := by simp [Addr.add]
            rw [hz] at h0 ⊢
            rw [List.getElem?_eq_getElem (by omega)] at h0
            unfold World.cell? at h0
            split at h0
            · next c' el fr hh =>
              split at h0
              · simp at h0
              · next hs =>
                refine ⟨by cases hsp : (a.add (i * P.cellsOf e)).spot with | none => rfl | some _ => rw [hsp] at hs; simp at hs, ?_⟩
                rcases Nat.lt_or_ge (a.add (i * P.cellsOf e)).block W.heap.size with h' | h'
                · exact h'
                · rw [Array.getElem?_eq_none h'] at hh; simp at hh
            · simp at h0
          have hblk : (a.add (i * P.cellsOf e)).block = a.block := by unfold Addr.add; split <;> rfl
          have hadd : ∀ j, (a.add (i * P.cellsOf e)).add j = ⟨a.block, a.off + i * P.cellsOf e + j, ((a.add (i * P.cellsOf e)).add j).spot⟩ := by
            intro j
            unfold Addr.add
            split <;> split <;> simp_all
          have hsp : ∀ j, ((a.add (i * P.cellsOf e)).add j).spot = none := by
            intro j
            by_cases hj : j = 0
            · subst hj; exact hspot.1
            · unfold Addr.add; rw [if_neg hj]
          refine ⟨c, hd, by rw [hcv.1, hlen'], ?_, by rw [← hblk]; exact hspot.2, fun j y hy => ?_⟩
          · by_cases h0 : i * P.cellsOf e = 0
            · have := hspot.1
              rw [h0] at this
              simpa [Addr.add] using this
            · -- the slice's own address is plain where its first element is read
              have h1 := hel 0 (by omega)
              rw [List.getElem?_eq_getElem (by omega), Option.bind_eq_some_iff] at h1
              obtain ⟨cs0, hcs0, _⟩ := h1
              obtain ⟨_, hl0, hc0⟩ := World.cells?_some hcs0
              have h2 := hc0 0 hp.1
              rw [List.getElem?_eq_getElem (by omega)] at h2
              simp only [Nat.zero_mul] at h2
              have hz : (a.add 0).add 0 = a := by simp [Addr.add]
              rw [hz] at h2
              unfold World.cell? at h2
              split at h2
              · split at h2
                · simp at h2
                · next hs => cases hsp : a.spot with | none => rfl | some _ => rw [hsp] at hs; simp at hs
              · simp at h2
          · have hjl : j < cs'.length := by
              rcases Nat.lt_or_ge j c.length with h' | h'
              · rw [← hcv.1]; exact h'
              · rw [List.getElem?_eq_none h'] at hy; simp at hy
            have h3 := hcell j (by omega)
            rw [hadd j, hsp j] at h3
            refine ⟨cs'[j], by rw [h3, List.getElem?_eq_getElem hjl], hcv.2 j y _ hy (List.getElem?_eq_getElem hjl)⟩
        let rows : List (List CV) := (List.range len).map fun i => if hi : i < len then (each i hi).choose else []
        have hrow : ∀ i c, rows[i]? = some c → ∃ hi : i < len, c = (each i hi).choose := by
          intro i c hc
          simp only [rows, List.getElem?_map] at hc
          rcases Nat.lt_or_ge i len with hi | hi
          · rw [List.getElem?_range hi] at hc
            simp only [Option.map_some, dif_pos hi, Option.some.injEq] at hc
            exact ⟨hi, hc.symm⟩
          · rw [List.getElem?_eq_none (by simpa using hi)] at hc; simp at hc
        have hrl : rows.length = len := by simp [rows]
        refine ⟨[.ro (P.cellsOf e) rows none], ?_, rfl, fun i y v hy hv => ?_⟩
        · simp only [Dat, hu]
          refine ⟨rows, rfl, by rw [hrl]; omega, fun r hr => ?_⟩
          obtain ⟨i, hi⟩ := List.mem_iff_getElem?.1 hr
          obtain ⟨hlt, rfl⟩ := hrow i r hi
          exact (each i hlt).choose_spec.1
        · cases i with
          | succ i => simp at hy
          | zero =>
            simp at hy hv; subst hy; subst hv
            have hvr : VR (Env.of W) (.ro (P.cellsOf e) rows none) (.slice (some a) rows.length cap) := by
              refine .ro (P.cellsOf e) rows none (some a) cap a.block a.off (fun i j => (W.cell? ⟨a.block, a.off + i * P.cellsOf e + j, none⟩).getD undef) (by omega) (fun c hc => by simp at hc) (fun hne => ?_) (fun c hc => ?_) (fun i j c x hi hj => ?_) (fun i j c x hi hj => ?_)
              · have hlp : 0 < len := by
                  rcases Nat.eq_zero_or_pos len with h0 | h0
                  · exact absurd (List.eq_nil_of_length_eq_zero (by omega)) hne
                  · exact h0
                obtain ⟨_, _, hs, hbl, _⟩ := (each 0 hlp).choose_spec
                refine ⟨?_, hbl⟩
                obtain ⟨b, o, s⟩ := a
                simp at hs; subst hs; rfl
              · obtain ⟨i, hi⟩ := List.mem_iff_getElem?.1 hc
                obtain ⟨hlt, rfl⟩ := hrow i c hi
                exact (each i hlt).choose_spec.2.1
              · obtain ⟨hlt, rfl⟩ := hrow i c hi
                obtain ⟨v, h1, _⟩ := (each i hlt).choose_spec.2.2.2.2 j x hj
                show W.cell? _ = _
                rw [h1]; rfl
              · obtain ⟨hlt, rfl⟩ := hrow i c hi
                obtain ⟨v, h1, h2⟩ := (each i hlt).choose_spec.2.2.2.2 j x hj
                rw [h1]; exact h2
            rwa [hrl] at hvr
    · next fs hu =>
      simp only [Bool.and_eq_true] at hp
      obtain ⟨xs, n', _, _, hl, hxl, hf⟩ := DataW.trod_struct hu h
      have hall : ∀ fd ∈ fs.toList, ∃ cs, Dat P m fd.type cs ∧ CVs (Env.of W) cs ((vs.drop fd.offset).take (P.cellsOf fd.type)) := by
        intro fd hfd
        obtain ⟨i, hi⟩ := List.mem_iff_getElem?.1 hfd
        have hi' : fs[i]? = some fd := by simpa using hi
        have h1 := hf i fd hi'
        have hlt : i < xs.length := by
          rw [hxl]
          rcases Nat.lt_or_ge i fs.size with h' | h'
          · exact h'
          · rw [Array.getElem?_eq_none h'] at hi'; simp at hi'
        rw [List.getElem?_eq_getElem hlt] at h1
        exact dat_of m fd.type (List.all_eq_true.1 hp.2 fd hfd) n' _ _ h1
      obtain ⟨cs, h1, h2, h3⟩ := struct_dat vs fs.toList 0 (P.cellsOf t) hp.1 (Nat.zero_le _) hl hall
      refine ⟨cs, ?_, by simpa using h2⟩
      simp only [Dat, hu]
      exact ⟨by simpa using h1, fun fd hfd => by simpa using h3 [] rfl fd hfd⟩
    · next n0 e hu =>
      simp only [Bool.and_eq_true] at hp
      obtain ⟨xs, n', _, _, hl, hxl, hf⟩ := DataW.trod_array hu h
      obtain ⟨cs, h1, h2⟩ := array_dat (P := P) (m := m) (E := Env.of W) (sz := P.cellsOf e) (e := e) n0 vs (by rw [hl]; exact (Nat.eq_of_beq_eq_true hp.1).symm) (fun i hi => by
        have h1 := hf i hi
        rw [List.getElem?_eq_getElem (by omega)] at h1
        exact dat_of m e hp.2 n' _ _ h1)
      refine ⟨cs, ?_, h1⟩
      simp only [Dat, hu]
      exact ⟨by rw [h1.1, hl], h2⟩
    · simp at hp

/-- the canonical value of a datum -/
def asCV (P : Program) (t : TypeId) (cs : List CV) : CV := match P.underlying t with
  | some (.struct _) => .agg cs
  | some (.array _ _) => .agg cs
  | _ => cs.headD (.agg [])

theorem arg_dat {m : Nat} {t : TypeId} {v : Value} {d : DataW H} {p : List MemPlace} {r : Reach} {b0 : Nat} (hp : plainT P m t = true) (hT : DataW.Trod enc P W base spare held t v d p) (hok : Value.okWide P W r b0 t v) :
    ∃ cs, Dat P m t cs ∧ VR (Env.of W) (asCV P t cs) v := by
  obtain ⟨fuel, hf⟩ := hT
  obtain ⟨cs, h1, h2⟩ := dat_of m t hp fuel _ _ hf
  refine ⟨cs, h1, ?_⟩
  have one : ∀ {x : CV}, cs = [x] → v.cells = #[v] → VR (Env.of W) (cs.headD (.agg [])) v := by
    intro x hx hv
    subst hx
    rw [hv] at h2
    exact h2.2 0 x v rfl rfl
  cases m with
  | zero => simp [plainT] at hp
  | succ m =>
    simp only [plainT] at hp
    simp only [Dat] at h1
    unfold asCV
    split at hp
    · next hu =>
      rw [hu] at h1 ⊢
      obtain ⟨b, hb⟩ := h1
      obtain ⟨b', rfl⟩ := WideShapes.okWide_bool hu hok
      exact one hb rfl
    · next k hu =>
      rw [hu] at h1 ⊢
      obtain ⟨b, hb, _⟩ := h1
      obtain ⟨b', rfl⟩ := WideShapes.okWide_int hu hok
      exact one hb rfl
    · next hu =>
      rw [hu] at h1 ⊢
      obtain ⟨b, hb, _⟩ := h1
      obtain ⟨b', rfl⟩ := WideShapes.okWide_string hu hok
      exact one hb rfl
    · next e hu =>
      rw [hu] at h1 ⊢
      obtain ⟨b, hb, _⟩ := h1
      obtain ⟨a, l, c, rfl⟩ := WideShapes.okWide_slice hu hok
      exact one hb rfl
    · next fs hu =>
      rw [hu]
      simp only [Value.okWide, hu] at hok
      obtain ⟨us, rfl, _, _⟩ := hok
      exact .agg cs us (by have := h2.1; simp [Value.cells] at this; omega) fun i x w hx hw => h2.2 i x w hx (by simpa [Value.cells] using hw)
    · next n e hu =>
      rw [hu]
      simp only [Value.okWide, hu] at hok
      obtain ⟨us, rfl, _, _⟩ := hok
      exact .agg cs us (by have := h2.1; simp [Value.cells] at this; omega) fun i x w hx hw => h2.2 i x w hx (by simpa [Value.cells] using hw)
    · simp at hp

/-- the canonical arguments -/
def DatAll (P : Program) (m : Nat) : List TypeId → List CV → Prop
  | [], [] => True
  | t :: ts, x :: xs => (∃ cs, x = asCV P t cs ∧ Dat P m t cs) ∧ DatAll P m ts xs
  | _, _ => False

theorem args_dat {m : Nat} {r : Reach} {b0 : Nat} : ∀ {ts : List TypeId} {vs : List Value} {ds : List (DataW H)} {ps : List MemPlace}, DataW.TrodAll enc P W base spare held ts vs ds ps →
    (∀ (j : Nat) t v, ts[j]? = some t → vs[j]? = some v → Value.okWide P W r b0 t v) → ts.all (plainT P m) = true → ∃ xs, DatAll P m ts xs ∧ xs.length = vs.length ∧ ∀ (i : Nat) x v, xs[i]? = some x → vs[i]? = some v → VR (Env.of W) x v
  | [], vs, ds, ps, h, hok, hp => by
    cases vs <;> cases ds <;> simp [DataW.TrodAll] at h
    exact ⟨[], trivial, rfl, fun i x v hx => by simp at hx⟩
  | t :: ts, vs, ds, ps, h, hok, hp => by
    obtain ⟨v, vs', d, ds', p, q, rfl, rfl, rfl, h1, h2⟩ := ChangeShapes.trodAll_cons h
    simp only [List.all_cons, Bool.and_eq_true] at hp
    obtain ⟨cs, c1, c2⟩ := arg_dat hp.1 h1 (hok 0 t v rfl rfl)
    obtain ⟨xs, x1, x2, x3⟩ := args_dat h2 (fun j t v ht hv => hok (j + 1) t v (by simpa using ht) (by simpa using hv)) hp.2
    refine ⟨asCV P t cs :: xs, ⟨⟨cs, rfl, c1⟩, x1⟩, by simp [x2], fun i x v hx hv => ?_⟩
    cases i with
    | zero => simp at hx hv; subst hx; subst hv; exact c2
    | succ i => exact x3 i x v (by simpa using hx) (by simpa using hv)

theorem args_back {W' : World} (hl : laidOutB P = true) (hb : RowKit.Below W.heap.size W W') : ∀ {ts : List TypeId} {vs : List Value} {ds : List (DataW H)} {ps : List MemPlace}, DataW.TrodAll enc P W 0 (fun _ => true) true ts vs ds ps →
    ts.all (fun t => P.readableRec t && Nat.blt t P.types.size) = true → ∃ qs, DataW.TrodAll enc P W' 0 (fun b => decide (b < W.heap.size)) true ts vs ds qs
  | [], vs, ds, ps, h, hp => by
    cases vs <;> cases ds <;> simp [DataW.TrodAll] at h
    exact ⟨[], rfl⟩
  | t :: ts, vs, ds, ps, h, hp => by
    obtain ⟨v, vs', d, ds', p, q, rfl, rfl, rfl, h1, h2⟩ := ChangeShapes.trodAll_cons h
    simp only [List.all_cons, Bool.and_eq_true, Nat.blt_eq] at hp
    obtain ⟨qs, hq⟩ := args_back hl hb h2 hp.2
    have hlt : ∀ x ∈ p, x.block < W.heap.size := by
      obtain ⟨m, hm⟩ := h1
      exact DataW.trod_lt m _ _ _ hm
    exact ⟨p ++ qs, p, qs, RowKit.Below.trod hl hp.1.1 hp.1.2 h1 hb hlt, hq, rfl⟩

/-- a law, by its contract on data -/
theorem calls_of_pc {f : FuncId} {xs : List CV} {args : Array Value} (h : PC P f xs (.bool true)) (hl : xs.length = args.toList.length) (hv : ∀ (i : Nat) x v, xs[i]? = some x → args.toList[i]? = some v → VR (Env.of W) x v) :
    Calls P f args W fun e W' => e = .returned (.bool true) ∧ RowKit.Below W.heap.size W W' := by
  refine (h (Env.of W) args (base_of W) ⟨by simpa using hl.symm, fun i x v hx hv' => hv i x v hx (by simpa using hv')⟩).mono ?_
  rintro e w' ⟨v, E', rfl, rfl, _, _, hex, _, hvr, hold⟩
  cases hvr
  exact ⟨rfl, hex.io.1, hex.io.2.1, hex.io.2.2, hex.grow, hold⟩

end

/-! ### typed data -/
def okI (k : IntKind) (n : Int) : Prop := k.min ≤ n ∧ n ≤ k.max
def okL {α : Type} (ok : α → Prop) (l : List α) : Prop := l.length ≤ 9223372036854775807 ∧ ∀ a ∈ l, ok a
def okB (b : Bool) : Prop := True
def okS (s : List UInt8) : Prop := s.length ≤ 9223372036854775807

section
variable {P : Program}

theorem dat_int {m : Nat} {t : TypeId} {k : IntKind} {cs : List CV} (hu : P.underlying t = some (.int k)) (h : Dat P m t cs) : ∃ n, cs = [.int k n] ∧ okI k n := by
  cases m with
  | zero => exact h.elim
  | succ m => simp only [Dat, hu] at h; exact h
theorem dat_bool {m : Nat} {t : TypeId} {cs : List CV} (hu : P.underlying t = some .bool) (h : Dat P m t cs) : ∃ b, cs = [.bool b] ∧ okB b := by
  cases m with
  | zero => exact h.elim
  | succ m => simp only [Dat, hu] at h; obtain ⟨b, hb⟩ := h; exact ⟨b, hb, trivial⟩
theorem dat_str {m : Nat} {t : TypeId} {cs : List CV} (hu : P.underlying t = some .string) (h : Dat P m t cs) : ∃ s, cs = [.str s] ∧ okS s := by
  cases m with
  | zero => exact h.elim
  | succ m => simp only [Dat, hu] at h; exact h

theorem rows_map {α : Type} {enc : α → List CV} {ok : α → Prop} : ∀ {rows : List (List CV)}, (∀ r ∈ rows, ∃ a, r = enc a ∧ ok a) → ∃ l : List α, rows = l.map enc ∧ ∀ a ∈ l, ok a
  | [], _ => ⟨[], rfl, fun a h => by simp at h⟩
  | r :: rows, h => by
    obtain ⟨a, rfl, ha⟩ := h r (by simp)
    obtain ⟨l, rfl, hl⟩ := rows_map (rows := rows) (fun r hr => h r (List.mem_cons_of_mem _ hr))
    exact ⟨a :: l, rfl, fun b hb => by
      rcases List.mem_cons.1 hb with rfl | hb
      · exact ha
      · exact hl b hb⟩

theorem dat_list {α : Type} {m sz : Nat} {t e : TypeId} {cs : List CV} {enc : α → List CV} {ok : α → Prop} (hu : P.underlying t = some (.slice e)) (hz : P.cellsOf e = sz) (hrow : ∀ m r, Dat P m e r → ∃ a, r = enc a ∧ ok a) (h : Dat P m t cs) :
    ∃ l : List α, cs = [.ro sz (l.map enc) none] ∧ okL ok l := by
  cases m with
  | zero => exact h.elim
  | succ m =>
    simp only [Dat, hu] at h
    obtain ⟨rows, rfl, hl, hr⟩ := h
    obtain ⟨l, rfl, ha⟩ := rows_map (fun r h => hrow m r (hr r h))
    exact ⟨l, by rw [hz], by simpa [maxLen] using hl, ha⟩

theorem dat_struct {m sz : Nat} {t : TypeId} {fs : Array Field} {cs : List CV} (hu : P.underlying t = some (.struct fs)) (hz : P.cellsOf t = sz) (h : Dat P m t cs) :
    cs.length = sz ∧ ∃ m', ∀ (i : Nat) (fd : Field), fs.toList[i]? = some fd → Dat P m' fd.type ((cs.drop fd.offset).take (P.cellsOf fd.type)) := by
  cases m with
  | zero => exact h.elim
  | succ m =>
    simp only [Dat, hu] at h
    exact ⟨by rw [h.1, hz], m, fun i fd hi => h.2 fd (List.mem_of_getElem? hi)⟩

theorem dat_array {m sz n se : Nat} {t e : TypeId} {cs : List CV} (hu : P.underlying t = some (.array n e)) (hz : P.cellsOf t = sz) (he : P.cellsOf e = se) (h : Dat P m t cs) :
    cs.length = sz ∧ ∃ m', ∀ i, i < n → Dat P m' e ((cs.drop (i * se)).take se) := by
  cases m with
  | zero => exact h.elim
  | succ m =>
    simp only [Dat, hu] at h
    exact ⟨by rw [h.1, hz], m, fun i hi => by have := h.2 i hi; rwa [he] at this⟩

theorem asCV_struct {t : TypeId} {fs : Array Field} {cs : List CV} (hu : P.underlying t = some (.struct fs)) : asCV P t cs = .agg cs := by unfold asCV; rw [hu]
theorem asCV_array {t e : TypeId} {n : Nat} {cs : List CV} (hu : P.underlying t = some (.array n e)) : asCV P t cs = .agg cs := by unfold asCV; rw [hu]
theorem asCV_int {t : TypeId} {k : IntKind} {x : CV} (hu : P.underlying t = some (.int k)) : asCV P t [x] = x := by unfold asCV; rw [hu]; rfl
theorem asCV_bool {t : TypeId} {x : CV} (hu : P.underlying t = some .bool) : asCV P t [x] = x := by unfold asCV; rw [hu]; rfl
theorem asCV_str {t : TypeId} {x : CV} (hu : P.underlying t = some .string) : asCV P t [x] = x := by unfold asCV; rw [hu]; rfl
theorem asCV_slice {t e : TypeId} {x : CV} (hu : P.underlying t = some (.slice e)) : asCV P t [x] = x := by unfold asCV; rw [hu]; rfl

end
end Go.Cn
