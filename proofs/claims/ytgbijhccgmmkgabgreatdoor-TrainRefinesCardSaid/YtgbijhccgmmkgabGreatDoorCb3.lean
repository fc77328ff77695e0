/- The canonical calculus: rows, living results, blocks that are given up. -/
import Derived.Test.YtgbijhccgmmkgabGreatDoorCb2
import Derived.OpenShut
import Derived.ChangeArms
import Derived.Carry
import Derived.Below
import Derived.SizedLaws
set_option linter.unusedVariables false
set_option linter.unusedSimpArgs false
noncomputable section
namespace Go.Cn

/-- a world in which all that lies there is read-only -/
def Env.of (W : World) : Env := { ρ := fun _ => none, L := fun _ => False, I := fun r => r < W.heap.size, w := W }

theorem base_of (W : World) : Base (Env.of W) := ⟨fun _ _ _ l => l.elim, fun _ _ l => l.elim, fun _ h => h⟩

/-- the cells of a datum of a plain type -/
def Dat (P : Program) : Nat → TypeId → List CV → Prop
  | 0, _, _ => False
  | f + 1, t, cs => match P.underlying t with
    | some .bool => ∃ b, cs = [.bool b]
    | some (.int k) => ∃ n, cs = [.int k n] ∧ k.min ≤ n ∧ n ≤ k.max
    | some .string => ∃ s : List UInt8, cs = [.str s] ∧ s.length ≤ maxLen
    | some (.slice e) => ∃ rows : List (List CV), cs = [.ro (P.cellsOf e) rows none] ∧ rows.length ≤ maxLen ∧ ∀ r ∈ rows, Dat P f e r
    | some (.struct fs) => cs.length = P.cellsOf t ∧ ∀ fd ∈ fs.toList, Dat P f fd.type ((cs.drop fd.offset).take (P.cellsOf fd.type))
    | some (.array n e) => cs.length = P.cellsOf t ∧ ∀ i, i < n → Dat P f e ((cs.drop (i * P.cellsOf e)).take (P.cellsOf e))
    | _ => False

def contig (P : Program) : List Field → Nat → Nat → Bool
  | [], off, total => Nat.beq off total
  | f :: r, off, total => Nat.beq f.offset off && contig P r (off + P.cellsOf f.type) total

/-- types without pointers, functions, maps and their like -/
def plainT (P : Program) : Nat → TypeId → Bool
  | 0, _ => false
  | m + 1, t => match P.underlying t with
    | some .bool => true
    | some (.int _) => true
    | some .string => true
    | some (.slice e) => Nat.blt 0 (P.cellsOf e) && plainT P m e
    | some (.struct fs) => contig P fs.toList 0 (P.cellsOf t) && fs.toList.all fun f => plainT P m f.type
    | some (.array n e) => Nat.beq (n * P.cellsOf e) (P.cellsOf t) && plainT P m e
    | _ => false

def CVs (E : Env) (cs : List CV) (vs : List Value) : Prop := cs.length = vs.length ∧ ∀ (i : Nat) x v, cs[i]? = some x → vs[i]? = some v → VR E x v

theorem cvs_append {E : Env} {a b : List CV} {u v : List Value} (h1 : CVs E a u) (h2 : CVs E b v) : CVs E (a ++ b) (u ++ v) := by
  refine ⟨by simp [h1.1, h2.1], fun i x w hx hw => ?_⟩
  rw [List.getElem?_append] at hx hw
  rw [← h1.1] at hw
  split at hx
  · next hlt => rw [if_pos hlt] at hw; exact h1.2 i x w hx hw
  · next hlt => rw [if_neg hlt] at hw; exact h2.2 _ x w hx hw

section
variable {H : Type} {enc : TypeId × Value → H} {P : Program} {W : World} {base : Nat} {spare : Nat → Bool} {held : Bool}

theorem struct_dat {m : Nat} {E : Env} (vs : List Value) : ∀ (fs : List Field) (off total : Nat), contig P fs off total = true → off ≤ total → vs.length = total →
    (∀ fd ∈ fs, ∃ cs, Dat P m fd.type cs ∧ CVs E cs ((vs.drop fd.offset).take (P.cellsOf fd.type))) →
    ∃ cs, cs.length = total - off ∧ CVs E cs (vs.drop off) ∧ ∀ (pre : List CV), pre.length = off → ∀ fd ∈ fs, Dat P m fd.type (((pre ++ cs).drop fd.offset).take (P.cellsOf fd.type))
  | [], off, total, hc, ho, hl, h => by
    have e := Nat.eq_of_beq_eq_true hc
    subst e
    refine ⟨[], by simp, ⟨by simp; omega, fun i x v hx => by simp at hx⟩, fun pre hp fd hf => by simp at hf⟩
  | f :: r, off, total, hc, ho, hl, h => by
    simp only [contig, Bool.and_eq_true] at hc
    have e := Nat.eq_of_beq_eq_true hc.1
    obtain ⟨c1, d1, v1⟩ := h f (by simp)
    have hle : off + P.cellsOf f.type ≤ total := by
      have : ∀ (r : List Field) (o : Nat), contig P r o total = true → o ≤ total := by
        intro r
        induction r with
        | nil => intro o h; have := Nat.eq_of_beq_eq_true h; omega
        | cons f r ih => intro o h; simp only [contig, Bool.and_eq_true] at h; have := ih _ h.2; omega
      exact this r _ hc.2
    obtain ⟨c2, l2, v2, d2⟩ := struct_dat vs r (off + P.cellsOf f.type) total hc.2 hle hl (fun fd hf => h fd (by simp [hf]))
    have hl1 : c1.length = P.cellsOf f.type := by rw [v1.1]; simp; omega
    refine ⟨c1 ++ c2, by simp [hl1, l2]; omega, ?_, fun pre hp fd hf => ?_⟩
    · have := cvs_append v1 v2
      rw [e] at this
      have e2 : List.take (P.cellsOf f.type) (List.drop off vs) ++ List.drop (off + P.cellsOf f.type) vs = List.drop off vs := by
        rw [← List.drop_drop, List.take_append_drop]
      rwa [e2] at this
    · rcases List.mem_cons.1 hf with rfl | hf
      · rw [e, ← hp, List.drop_left, ← hl1, List.take_left]
        exact d1
      · rw [← List.append_assoc]
        exact d2 (pre ++ c1) (by simp [hp, hl1]) fd hf

theorem array_dat {m : Nat} {E : Env} {sz : Nat} {e : TypeId} : ∀ (n : Nat) (vs : List Value), vs.length = n * sz → (∀ i, i < n → ∃ cs, Dat P m e cs ∧ CVs E cs ((vs.drop (i * sz)).take sz)) →
    ∃ cs, CVs E cs vs ∧ ∀ i, i < n → Dat P m e ((cs.drop (i * sz)).take sz) := by
  intro n
  induction n with
  | zero => exact fun vs hl h => ⟨[], ⟨by simp at hl; simp [hl], fun i x v hx => by simp at hx⟩, fun i hi => by omega⟩
  | succ n ih =>
    intro vs hl h
    have hl' : vs.length = n * sz + sz := by rw [hl, Nat.add_mul, Nat.one_mul]
    obtain ⟨c1, v1, d1⟩ := ih (vs.take (n * sz)) (by rw [List.length_take, hl']; omega) (fun i hi => by
      obtain ⟨cs, h1, h2⟩ := h i (by omega)
      refine ⟨cs, h1, ?_⟩
      have hle : i * sz + sz ≤ n * sz := by
        calc i * sz + sz = (i + 1) * sz := by rw [Nat.add_mul, Nat.one_mul]
          _ ≤ n * sz := Nat.mul_le_mul_right sz hi
      rw [List.drop_take, List.take_take, Nat.min_eq_left (by omega)]
      exact h2)
    obtain ⟨c2, d2, v2⟩ := h n (by omega)
    have hl1 : c1.length = n * sz := by rw [v1.1]; simp; omega
    refine ⟨c1 ++ c2, ?_, fun i hi => ?_⟩
    · have := cvs_append v1 v2
      have e2 : List.take (n * sz) vs ++ List.take sz (List.drop (n * sz) vs) = vs := by
        rw [List.take_of_length_le (l := List.drop (n * sz) vs) (by simp; omega), List.take_append_drop]
      rwa [e2] at this
    · by_cases hin : i < n
      · have hle : i * sz + sz ≤ n * sz := by
          calc i * sz + sz = (i + 1) * sz := by rw [Nat.add_mul, Nat.one_mul]
            _ ≤ n * sz := Nat.mul_le_mul_right sz hin
        have := d1 i hin
        rw [List.drop_append_of_le_length (by omega), List.take_append_of_le_length (by simp; omega)]
        exact this
      · have e : i = n := by omega
        subst e
        have hl2 : c2.length = sz := by rw [v2.1]; simp; omega
        rw [← hl1, List.drop_left, ← hl2, List.take_length]
        exact d2

theorem dat_of : ∀ (m : Nat) (t : TypeId), plainT P m t = true → ∀ (n : Nat) (vs : List Value) (x : DataW H × List MemPlace), DataW.trod enc P W base spare held n t vs = some x → ∃ cs, Dat P m t cs ∧ CVs (Env.of W) cs vs
  | 0, t, hp, n, vs, x, h => by simp [plainT] at hp
  | m + 1, t, hp, n, vs, x, h => by
    simp only [plainT] at hp
    split at hp
    · next hu =>
      obtain ⟨b, rfl, _⟩ := DataW.trod_bool hu h
      refine ⟨[.bool b], by simp only [Dat, hu]; exact ⟨b, rfl⟩, rfl, fun i y v hy hv => ?_⟩
      cases i with
      | zero => simp at hy hv; subst hy; subst hv; exact .bool b
      | succ i => simp at hy
    · next k hu =>
      obtain ⟨z, rfl, _, hw⟩ := DataW.trod_int hu h
      simp only [Lit.wf, Bool.and_eq_true, decide_eq_true_eq] at hw
      refine ⟨[.int k z], by simp only [Dat, hu]; exact ⟨z, rfl, hw.1, hw.2⟩, rfl, fun i y v hy hv => ?_⟩
      cases i with
      | zero => simp at hy hv; subst hy; subst hv; exact .int k z
      | succ i => simp at hy
    · next hu =>
      obtain ⟨s, rfl, _, hs⟩ := DataW.trod_string hu h
      refine ⟨[.str s.data.toList], by simp only [Dat, hu]; exact ⟨_, rfl, by simpa using hs⟩, rfl, fun i y v hy hv => ?_⟩
      cases i with
      | zero => simp at hy hv; subst hy; subst hv; exact .str s.data.toList
      | succ i => simp at hy
    · next e hu =>
      simp only [Bool.and_eq_true, Nat.blt_eq] at hp
      rcases DataW.trod_slice hu h with ⟨rfl, _⟩ | ⟨a, len, cap, elems, rest, n', _, rfl, _, hb, hl, hm, hlen, hel, _, _⟩
      · refine ⟨[.ro (P.cellsOf e) [] none], by simp only [Dat, hu]; exact ⟨[], rfl, by simp [maxLen], fun r hr => by simp at hr⟩, rfl, fun i y v hy hv => ?_⟩
        cases i with
        | zero =>
          simp at hy hv; subst hy; subst hv
          exact .ro _ [] none none 0 0 0 (fun _ _ => undef) (Nat.le_refl _) (fun c hc => by simp at hc) (fun h => absurd rfl h) (fun c hc => by simp at hc) (fun i j c x hi => by simp at hi) (fun i j c x hi => by simp at hi)
        | succ i => simp at hy
      · have each : ∀ i, i < len → ∃ c, Dat P m e c ∧ c.length = P.cellsOf e ∧ a.spot = none ∧ a.block < W.heap.size ∧ ∀ (j : Nat) y, c[j]? = some y → ∃ v, W.cell? ⟨a.block, a.off + i * P.cellsOf e + j, none⟩ = some v ∧ VR (Env.of W) y v := by
          intro i hi
          have h1 := hel i hi
          have hlt : i < elems.length := by omega
          rw [List.getElem?_eq_getElem hlt, Option.bind_eq_some_iff] at h1
          obtain ⟨cs', hcs, ht⟩ := h1
          obtain ⟨c, hd, hcv⟩ := dat_of m e hp.2 n' cs' _ ht
          obtain ⟨_, hlen', hcell⟩ := World.cells?_some hcs
          have h0 := hcell 0 hp.1
          have hspot : ((a.add (i * P.cellsOf e)).add 0).spot = none ∧ (a.add (i * P.cellsOf e)).block < W.heap.size := by
            have hz : (a.add (i * P.cellsOf e)).add 0 = a.add (i * P.cellsOf e) := by simp [Addr.add]
            rw [hz] at h0 ⊢
            rw [List.getElem?_eq_getElem (by omega)] at h0
            unfold World.cell? at h0
            split at h0
            · next c' el fr hh =>
              split at h0
              · simp at h0
              · next hs =>
                refine ⟨by cases hsp : (a.add (i * P.cellsOf e)).spot with | none => rfl | some _ => rw [hsp] at hs; simp at hs, ?_⟩
                rcases Nat.lt_or_ge (a.add (i * P.cellsOf e)).block W.heap.size with h' | h'
                · exact h'
                · rw [Array.getElem?_eq_none h'] at hh; simp at hh
            · simp at h0
          have hblk : (a.add (i * P.cellsOf e)).block = a.block := by unfold Addr.add; split <;> rfl
          have hadd : ∀ j, (a.add (i * P.cellsOf e)).add j = ⟨a.block, a.off + i * P.cellsOf e + j, ((a.add (i * P.cellsOf e)).add j).spot⟩ := by
            intro j
            unfold Addr.add
            split <;> split <;> simp_all
          have hsp : ∀ j, ((a.add (i * P.cellsOf e)).add j).spot = none := by
            intro j
            by_cases hj : j = 0
            · subst hj; exact hspot.1
            · unfold Addr.add; rw [if_neg hj]
          refine ⟨c, hd, by rw [hcv.1, hlen'], ?_, by rw [← hblk]; exact hspot.2, fun j y hy => ?_⟩
          · by_cases h0 : i * P.cellsOf e = 0
            · have := hspot.1
              rw [h0] at this
              simpa [Addr.add] using this
            · -- the slice's own address is plain where its first element is read
              have h1 := hel 0 (by omega)
              rw [List.getElem?_eq_getElem (by omega), Option.bind_eq_some_iff] at h1
              obtain ⟨cs0, hcs0, _⟩ := h1
              obtain ⟨_, hl0, hc0⟩ := World.cells?_some hcs0
              have h2 := hc0 0 hp.1
              rw [List.getElem?_eq_getElem (by omega)] at h2
              simp only [Nat.zero_mul] at h2
              have hz : (a.add 0).add 0 = a := by simp [Addr.add]
              rw [hz] at h2
              unfold World.cell? at h2
              split at h2
              · split at h2
                · simp at h2
                · next hs => cases hsp : a.spot with | none => rfl | some _ => rw [hsp] at hs; simp at hs
              · simp at h2
          · have hjl : j < cs'.length := by
              rcases Nat.lt_or_ge j c.length with h' | h'
              · rw [← hcv.1]; exact h'
              · rw [List.getElem?_eq_none h'] at hy; simp at hy
            have h3 := hcell j (by omega)
            rw [hadd j, hsp j] at h3
            refine ⟨cs'[j], by rw [h3, List.getElem?_eq_getElem hjl], hcv.2 j y _ hy (List.getElem?_eq_getElem hjl)⟩
        let rows : List (List CV) := (List.range len).map fun i => if hi : i < len then (each i hi).choose else []
        have hrow : ∀ i c, rows[i]? = some c → ∃ hi : i < len, c = (each i hi).choose := by
          intro i c hc
          simp only [rows, List.getElem?_map] at hc
          rcases Nat.lt_or_ge i len with hi | hi
          · rw [List.getElem?_range hi] at hc
            simp only [Option.map_some, dif_pos hi, Option.some.injEq] at hc
            exact ⟨hi, hc.symm⟩
          · rw [List.getElem?_eq_none (by simpa using hi)] at hc; simp at hc
        have hrl : rows.length = len := by simp [rows]
        refine ⟨[.ro (P.cellsOf e) rows none], ?_, rfl, fun i y v hy hv => ?_⟩
        · simp only [Dat, hu]
          refine ⟨rows, rfl, by rw [hrl]; omega, fun r hr => ?_⟩
          obtain ⟨i, hi⟩ := List.mem_iff_getElem?.1 hr
          obtain ⟨hlt, rfl⟩ := hrow i r hi
          exact (each i hlt).choose_spec.1
        · cases i with
          | succ i => simp at hy
          | zero =>
            simp at hy hv; subst hy; subst hv
            have hvr : VR (Env.of W) (.ro (P.cellsOf e) rows none) (.slice (some a) rows.length cap) := by
              refine .ro (P.cellsOf e) rows none (some a) cap a.block a.off (fun i j => (W.cell? ⟨a.block, a.off + i * P.cellsOf e + j, none⟩).getD undef) (by omega) (fun c hc => by simp at hc) (fun hne => ?_) (fun c hc => ?_) (fun i j c x hi hj => ?_) (fun i j c x hi hj => ?_)
              · have hlp : 0 < len := by
                  rcases Nat.eq_zero_or_pos len with h0 | h0
                  · exact absurd (List.eq_nil_of_length_eq_zero (by omega)) hne
                  · exact h0
                obtain ⟨_, _, hs, hbl, _⟩ := (each 0 hlp).choose_spec
                refine ⟨?_, hbl⟩
                obtain ⟨b, o, s⟩ := a
                simp at hs; subst hs; rfl
              · obtain ⟨i, hi⟩ := List.mem_iff_getElem?.1 hc
                obtain ⟨hlt, rfl⟩ := hrow i c hi
                exact (each i hlt).choose_spec.2.1
              · obtain ⟨hlt, rfl⟩ := hrow i c hi
                obtain ⟨v, h1, _⟩ := (each i hlt).choose_spec.2.2.2.2 j x hj
                show W.cell? _ = _
                rw [h1]; rfl
              · obtain ⟨hlt, rfl⟩ := hrow i c hi
                obtain ⟨v, h1, h2⟩ := (each i hlt).choose_spec.2.2.2.2 j x hj
                rw [h1]; exact h2
            rwa [hrl] at hvr
    · next fs hu =>
      simp only [Bool.and_eq_true] at hp
      obtain ⟨xs, n', _, _, hl, hxl, hf⟩ := DataW.trod_struct hu h
      have hall : ∀ fd ∈ fs.toList, ∃ cs, Dat P m fd.type cs ∧ CVs (Env.of W) cs ((vs.drop fd.offset).take (P.cellsOf fd.type)) := by
        intro fd hfd
        obtain ⟨i, hi⟩ := List.mem_iff_getElem?.1 hfd
        have hi' : fs[i]? = some fd := by simpa using hi
        have h1 := hf i fd hi'
        have hlt : i < xs.length := by
          rw [hxl]
          rcases Nat.lt_or_ge i fs.size with h' | h'
          · exact h'
          · rw [Array.getElem?_eq_none h'] at hi'; simp at hi'
        rw [List.getElem?_eq_getElem hlt] at h1
        exact dat_of m fd.type (List.all_eq_true.1 hp.2 fd hfd) n' _ _ h1
      obtain ⟨cs, h1, h2, h3⟩ := struct_dat vs fs.toList 0 (P.cellsOf t) hp.1 (Nat.zero_le _) hl hall
      refine ⟨cs, ?_, by simpa using h2⟩
      simp only [Dat, hu]
      exact ⟨by simpa using h1, fun fd hfd => by simpa using h3 [] rfl fd hfd⟩
    · next n0 e hu =>
      simp only [Bool.and_eq_true] at hp
      obtain ⟨xs, n', _, _, hl, hxl, hf⟩ := DataW.trod_array hu h
      obtain ⟨cs, h1, h2⟩ := array_dat (P := P) (m := m) (E := Env.of W) (sz := P.cellsOf e) (e := e) n0 vs (by rw [hl]; exact (Nat.eq_of_beq_eq_true hp.1).symm) (fun i hi => by
        have h1 := hf i hi
        rw [List.getElem?_eq_getElem (by omega)] at h1
        exact dat_of m e hp.2 n' _ _ h1)
      refine ⟨cs, ?_, h1⟩
      simp only [Dat, hu]
      exact ⟨by rw [h1.1, hl], h2⟩
    · simp at hp

/-- the canonical value of a datum -/
def asCV (P : Program) (t : TypeId) (cs : List CV) : CV := match P.underlying t with
  | some (.struct _) => .agg cs
  | some (.array _ _) => .agg cs
  | _ => cs.headD (.agg [])

theorem arg_dat {m : Nat} {t : TypeId} {v : Value} {d : DataW H} {p : List MemPlace} {r : Reach} {b0 : Nat} (hp : plainT P m t = true) (hT : DataW.Trod enc P W base spare held t v d p) (hok : Value.okWide P W r b0 t v) :
    ∃ cs, Dat P m t cs ∧ VR (Env.of W) (asCV P t cs) v := by
  obtain ⟨fuel, hf⟩ := hT
  obtain ⟨cs, h1, h2⟩ := dat_of m t hp fuel _ _ hf
  refine ⟨cs, h1, ?_⟩
  have one : ∀ {x : CV}, cs = [x] → v.cells = #[v] → VR (Env.of W) (cs.headD (.agg [])) v := by
    intro x hx hv
    subst hx
    rw [hv] at h2
    exact h2.2 0 x v rfl rfl
  cases m with
  | zero => simp [plainT] at hp
  | succ m =>
    simp only [plainT] at hp
    simp only [Dat] at h1
    unfold asCV
    split at hp
    · next hu =>
      rw [hu] at h1 ⊢
      obtain ⟨b, hb⟩ := h1
      obtain ⟨b', rfl⟩ := WideShapes.okWide_bool hu hok
      exact one hb rfl
    · next k hu =>
      rw [hu] at h1 ⊢
      obtain ⟨b, hb, _⟩ := h1
      obtain ⟨b', rfl⟩ := WideShapes.okWide_int hu hok
      exact one hb rfl
    · next hu =>
      rw [hu] at h1 ⊢
      obtain ⟨b, hb, _⟩ := h1
      obtain ⟨b', rfl⟩ := WideShapes.okWide_string hu hok
      exact one hb rfl
    · next e hu =>
      rw [hu] at h1 ⊢
      obtain ⟨b, hb, _⟩ := h1
      obtain ⟨a, l, c, rfl⟩ := WideShapes.okWide_slice hu hok
      exact one hb rfl
    · next fs hu =>
      rw [hu]
      simp only [Value.okWide, hu] at hok
      obtain ⟨us, rfl, _, _⟩ := hok
      exact .agg cs us (by have := h2.1; simp [Value.cells] at this; omega) fun i x w hx hw => h2.2 i x w hx (by simpa [Value.cells] using hw)
    · next n e hu =>
      rw [hu]
      simp only [Value.okWide, hu] at hok
      obtain ⟨us, rfl, _, _⟩ := hok
      exact .agg cs us (by have := h2.1; simp [Value.cells] at this; omega) fun i x w hx hw => h2.2 i x w hx (by simpa [Value.cells] using hw)
    · simp at hp

/-- the canonical arguments -/
def DatAll (P : Program) (m : Nat) : List TypeId → List CV → Prop
  | [], [] => True
  | t :: ts, x :: xs => (∃ cs, x = asCV P t cs ∧ Dat P m t cs) ∧ DatAll P m ts xs
  | _, _ => False

theorem args_dat {m : Nat} {r : Reach} {b0 : Nat} : ∀ {ts : List TypeId} {vs : List Value} {ds : List (DataW H)} {ps : List MemPlace}, DataW.TrodAll enc P W base spare held ts vs ds ps →
    (∀ (j : Nat) t v, ts[j]? = some t → vs[j]? = some v → Value.okWide P W r b0 t v) → ts.all (plainT P m) = true → ∃ xs, DatAll P m ts xs ∧ xs.length = vs.length ∧ ∀ (i : Nat) x v, xs[i]? = some x → vs[i]? = some v → VR (Env.of W) x v
  | [], vs, ds, ps, h, hok, hp => by
    cases vs <;> cases ds <;> simp [DataW.TrodAll] at h
    exact ⟨[], trivial, rfl, fun i x v hx => by simp at hx⟩
  | t :: ts, vs, ds, ps, h, hok, hp => by
    obtain ⟨v, vs', d, ds', p, q, rfl, rfl, rfl, h1, h2⟩ := ChangeShapes.trodAll_cons h
    simp only [List.all_cons, Bool.and_eq_true] at hp
    obtain ⟨cs, c1, c2⟩ := arg_dat hp.1 h1 (hok 0 t v rfl rfl)
    obtain ⟨xs, x1, x2, x3⟩ := args_dat h2 (fun j t v ht hv => hok (j + 1) t v (by simpa using ht) (by simpa using hv)) hp.2
    refine ⟨asCV P t cs :: xs, ⟨⟨cs, rfl, c1⟩, x1⟩, by simp [x2], fun i x v hx hv => ?_⟩
    cases i with
    | zero => simp at hx hv; subst hx; subst hv; exact c2
    | succ i => exact x3 i x v (by simpa using hx) (by simpa using hv)

theorem args_back {W' : World} (hl : laidOutB P = true) (hb : RowKit.Below W.heap.size W W') : ∀ {ts : List TypeId} {vs : List Value} {ds : List (DataW H)} {ps : List MemPlace}, DataW.TrodAll enc P W 0 (fun _ => true) true ts vs ds ps →
    ts.all (fun t => P.readableRec t && Nat.blt t P.types.size) = true → ∃ qs, DataW.TrodAll enc P W' 0 (fun b => decide (b < W.heap.size)) true ts vs ds qs
  | [], vs, ds, ps, h, hp => by
    cases vs <;> cases ds <;> simp [DataW.TrodAll] at h
    exact ⟨[], rfl⟩
  | t :: ts, vs, ds, ps, h, hp => by
    obtain ⟨v, vs', d, ds', p, q, rfl, rfl, rfl, h1, h2⟩ := ChangeShapes.trodAll_cons h
    simp only [List.all_cons, Bool.and_eq_true, Nat.blt_eq] at hp
    obtain ⟨qs, hq⟩ := args_back hl hb h2 hp.2
    have hlt : ∀ x ∈ p, x.block < W.heap.size := by
      obtain ⟨m, hm⟩ := h1
      exact DataW.trod_lt m _ _ _ hm
    exact ⟨p ++ qs, p, qs, RowKit.Below.trod hl hp.1.1 hp.1.2 h1 hb hlt, hq, rfl⟩

/-- a law, by its contract on data -/
theorem calls_of_pc {f : FuncId} {xs : List CV} {args : Array Value} (h : PC P f xs (.bool true)) (hl : xs.length = args.toList.length) (hv : ∀ (i : Nat) x v, xs[i]? = some x → args.toList[i]? = some v → VR (Env.of W) x v) :
    Calls P f args W fun e W' => e = .returned (.bool true) ∧ RowKit.Below W.heap.size W W' := by
  refine (h (Env.of W) args (base_of W) ⟨by simpa using hl.symm, fun i x v hx hv' => hv i x v hx (by simpa using hv')⟩).mono ?_
  rintro e w' ⟨v, E', rfl, rfl, _, _, hex, _, hvr, hold⟩
  cases hvr
  exact ⟨rfl, hex.io.1, hex.io.2.1, hex.io.2.2, hex.grow, hold⟩

end

/-! ### typed data -/
def okI (k : IntKind) (n : Int) : Prop := k.min ≤ n ∧ n ≤ k.max
def okL {α : Type} (ok : α → Prop) (l : List α) : Prop := l.length ≤ 9223372036854775807 ∧ ∀ a ∈ l, ok a
def okB (b : Bool) : Prop := True
def okS (s : List UInt8) : Prop := s.length ≤ 9223372036854775807

section
variable {P : Program}

theorem dat_int {m : Nat} {t : TypeId} {k : IntKind} {cs : List CV} (hu : P.underlying t = some (.int k)) (h : Dat P m t cs) : ∃ n, cs = [.int k n] ∧ okI k n := by
  cases m with
  | zero => exact h.elim
  | succ m => simp only [Dat, hu] at h; exact h
theorem rows_map {α : Type} {enc : α → List CV} {ok : α → Prop} : ∀ {rows : List (List CV)}, (∀ r ∈ rows, ∃ a, r = enc a ∧ ok a) → ∃ l : List α, rows = l.map enc ∧ ∀ a ∈ l, ok a
  | [], _ => ⟨[], rfl, fun a h => by simp at h⟩
  | r :: rows, h => by
    obtain ⟨a, rfl, ha⟩ := h r (by simp)
    obtain ⟨l, rfl, hl⟩ := rows_map (rows := rows) (fun r hr => h r (List.mem_cons_of_mem _ hr))
    exact ⟨a :: l, rfl, fun b hb => by
      rcases List.mem_cons.1 hb with rfl | hb
      · exact ha
      · exact hl b hb⟩

theorem dat_list {α : Type} {m sz : Nat} {t e : TypeId} {cs : List CV} {enc : α → List CV} {ok : α → Prop} (hu : P.underlying t = some (.slice e)) (hz : P.cellsOf e = sz) (hrow : ∀ m r, Dat P m e r → ∃ a, r = enc a ∧ ok a) (h : Dat P m t cs) :
    ∃ l : List α, cs = [.ro sz (l.map enc) none] ∧ okL ok l := by
  cases m with
  | zero => exact h.elim
  | succ m =>
    simp only [Dat, hu] at h
    obtain ⟨rows, rfl, hl, hr⟩ := h
    obtain ⟨l, rfl, ha⟩ := rows_map (fun r h => hrow m r (hr r h))
    exact ⟨l, by rw [hz], by simpa [maxLen] using hl, ha⟩

theorem dat_struct {m sz : Nat} {t : TypeId} {fs : Array Field} {cs : List CV} (hu : P.underlying t = some (.struct fs)) (hz : P.cellsOf t = sz) (h : Dat P m t cs) :
    cs.length = sz ∧ ∃ m', ∀ (i : Nat) (fd : Field), fs.toList[i]? = some fd → Dat P m' fd.type ((cs.drop fd.offset).take (P.cellsOf fd.type)) := by
  cases m with
  | zero => exact h.elim
  | succ m =>
    simp only [Dat, hu] at h
    exact ⟨by rw [h.1, hz], m, fun i fd hi => h.2 fd (List.mem_of_getElem? hi)⟩

theorem dat_array {m sz n se : Nat} {t e : TypeId} {cs : List CV} (hu : P.underlying t = some (.array n e)) (hz : P.cellsOf t = sz) (he : P.cellsOf e = se) (h : Dat P m t cs) :
    cs.length = sz ∧ ∃ m', ∀ i, i < n → Dat P m' e ((cs.drop (i * se)).take se) := by
  cases m with
  | zero => exact h.elim
  | succ m =>
    simp only [Dat, hu] at h
    exact ⟨by rw [h.1, hz], m, fun i hi => by have := h.2 i hi; rwa [he] at this⟩

theorem asCV_struct {t : TypeId} {fs : Array Field} {cs : List CV} (hu : P.underlying t = some (.struct fs)) : asCV P t cs = .agg cs := by unfold asCV; rw [hu]
end
end Go.Cn
end
noncomputable section
namespace Go.Cn
variable {P : Program}

/-- the function, called in an empty memory, comes to x with the memory K0; t: its numbers are below -/
def LC (P : Program) (f : FuncId) (args : List CV) (x : CV) (K0 : ua8) (t : Nat) : Prop := HC P f args [] 0 t fun y K => y = x ∧ K = K0

theorem lc_of {f : FuncId} {fn : Func} {c : Code} {args : List CV} {top : Nat} {x : CV} {K0 : ua8} (hf : P.funcs[f]? = some fn) (hb : fn.body = some c) (hl : Nat.ble args.length fn.ntmps = true)
    (h : Goes P f fn.ntmps 0 top [.code c] ⟨argTm args 0 [], [], 0⟩ fun y K => y = x ∧ K = K0) : LC P f args x K0 top :=
  uo4 hf hb (Nat.le_of_ble_eq_true hl) h

def pushH (n : Nat) : ua8 → ua8
  | [] => []
  | (b, blk) :: h => (b + n, blk) :: pushH n h

/-- cells that refer to nothing -/
def Alone (Z : Prop) (blk : List CV) : Prop := (∀ n, shL n blk = blk) ∧ uj6 blk ∧ (Z → ui5 blk)
def AloneH (Z : Prop) : ua8 → Prop
  | [] => True
  | (_, blk) :: h => Alone Z blk ∧ AloneH Z h

theorem shL_append {n : Nat} : ∀ (xs ys : List CV), shL n (xs ++ ys) = shL n xs ++ shL n ys
  | [], ys => rfl
  | x :: xs, ys => by simp only [List.cons_append, shL, shL_append xs ys]
theorem plainL_append : ∀ {xs ys : List CV}, ui5 xs → ui5 ys → ui5 (xs ++ ys)
  | [], _, _, h => h
  | _ :: _, _, h, h' => ⟨h.1, plainL_append h.2 h'⟩

theorem alone_flat {α : Type} {enc : α → List CV} {Z : Prop} (h : ∀ a, Alone Z (enc a)) : ∀ (l : List α), Alone Z (l.flatMap enc)
  | [] => ⟨fun _ => rfl, trivial, fun _ => trivial⟩
  | a :: l => by
    obtain ⟨h1, h2, h3⟩ := h a
    obtain ⟨g1, g2, g3⟩ := alone_flat h l
    simp only [List.flatMap_cons]
    exact ⟨fun n => by rw [shL_append, h1, g1], ui8 h2 g2, fun z => plainL_append (h3 z) (g3 z)⟩

/-- the memory that is handed out, under its new numbers -/
def MoveH (Z : Prop) (n : Nat) : ua8 → ua8 → Prop
  | [], [] => True
  | (b, blk) :: h, (b', blk') :: h' => (b' = b + n ∧ shL n blk = blk' ∧ uj6 blk ∧ (Z → ui5 blk)) ∧ MoveH Z n h h'
  | _, _ => False

theorem move_sh {Z : Prop} {n : Nat} : ∀ {K K' : ua8}, MoveH Z n K K' → shH n K = K' ∧ ∀ b blk, hget K b = some blk → uj6 blk ∧ (Z → ui5 blk)
  | [], [], _ => ⟨rfl, fun b blk h => by simp [uc2] at h⟩
  | (b, blk) :: h, (b', blk') :: h', hm => by
    obtain ⟨⟨rfl, rfl, h3, h4⟩, h5⟩ := hm
    obtain ⟨g1, g2⟩ := move_sh h5
    refine ⟨by simp only [shH, g1], fun c x hc => ?_⟩
    rw [ub2] at hc
    split at hc
    · cases hc; exact ⟨h3, h4⟩
    · exact g2 c x hc
  | [], _ :: _, h => h.elim
  | _ :: _, [], h => h.elim

theorem sh_get {n : Nat} : ∀ {K : ua8} {t : Nat}, K.all (fun p => Nat.blt p.1 t) = true → ∀ (H : ua8) (b : Nat), (b < n → hget (shH n K ++ H) b = hget H b) ∧ (∀ blk, hget (shH n K ++ H) b = some blk → b < n + t ∨ hget H b = some blk)
  | [], t, _, H, b => ⟨fun _ => rfl, fun blk h => .inr h⟩
  | (c, x) :: K, t, hk, H, b => by
    simp only [List.all_cons, Bool.and_eq_true, Nat.blt_eq] at hk
    obtain ⟨h1, h2⟩ := sh_get hk.2 H b
    simp only [shH, List.cons_append, ub2]
    refine ⟨fun hb => ?_, fun blk hb => ?_⟩
    · rw [if_neg (by omega)]; exact h1 hb
    · split at hb
      · left; omega
      · exact h2 blk hb

theorem callIs_lm {f : FuncId} {fn : Func} {args args' : List CV} {x x' : CV} {H K0 K' : ua8} {n n' t lo : Nat} (Z : Prop) (hf : P.funcs[f]? = some fn) (hb : fn.body.isSome = true) (hn : (fn.name == "runtime.NumGoroutine") = false) (h : LC P f args' x K0 t) (hr : ReadsL Z H args args')
    (ht : x.Tidy) (hp : Z → x.Plain) (hM : MoveH Z n K0 K') (hk : K0.all (fun p => Nat.blt p.1 t) = true) (hs : x.sh n = x') (hm : n + t = n') : ub8 P f args H n lo x' (K' ++ H) n' := by
  obtain ⟨rfl, hK⟩ := move_sh hM
  subst hs; subst hm
  obtain ⟨h1, h2⟩ := uf7 hr
  refine ⟨⟨fn, hf, hb, hn⟩, ⟨Nat.le_add_right _ _, fun hl b hlt => (sh_get hk H b).1 (by omega), fun hky b blk hg => ?_⟩, hc_frame (P := P) (t := t) Z h H n h1.symm h2 ht hp hK⟩
  rcases (sh_get hk H b).2 blk hg with g | g
  · exact g
  · have := hky b blk g; omega

theorem move_flat {α : Type} {enc : α → List CV} {Z : Prop} {n : Nat} (h : ∀ a, Alone Z (enc a)) (l : List α) : shL n (l.flatMap enc) = l.flatMap enc ∧ uj6 (l.flatMap enc) ∧ (Z → ui5 (l.flatMap enc)) :=
  ⟨(alone_flat h l).1 n, (alone_flat h l).2⟩

/-! ### a part of a living slice -/
/-! ### results that lie in new memory alone -/
/-- given up for good, y in K reads as x, in the new blocks alone -/
def FrzS (K : ua8) (y x : CV) : Prop := ∀ (E : Env) (v : Value) (J : Nat → Prop), HR E K → VR E y v → (∀ b r, E.L b → E.ρ b = some r → J r) → VR { ρ := fun _ => none, L := fun _ => False, I := J, w := E.w } x v

def Scal (x : CV) : Prop := ∀ (E E' : Env) (v : Value), VR E x v → VR E' x v
theorem scal_bool {b : Bool} : Scal (.bool b) := fun E E' v h => by cases h; exact .bool b
theorem scal_int {k : IntKind} {n : Int} : Scal (.int k n) := fun E E' v h => by cases h; exact .int k n
def ScalL : List CV → Prop
  | [] => True
  | x :: xs => Scal x ∧ ScalL xs
theorem scalL_mem : ∀ {xs : List CV}, ScalL xs → ∀ x ∈ xs, Scal x
  | [], _, x, h => by simp at h
  | y :: xs, h, x, hx => by
    rcases List.mem_cons.1 hx with rfl | hx
    · exact h.1
    · exact scalL_mem h.2 x hx

def FrzSL (K : ua8) : List CV → List CV → Prop
  | [], [] => True
  | y :: ys, x :: xs => FrzS K y x ∧ FrzSL K ys xs
  | _, _ => False
/-- the function, called in an empty memory, comes to what reads as x, in new blocks alone -/
def PS (P : Program) (f : FuncId) (args : List CV) (x : CV) : Prop := ∃ t, HC P f args [] 0 t fun y K => FrzS K y x

/-! ### the code's control, stopped behind a region -/
/-- as 'dsc', but only past n regions -/
def dsr : Nat → List Bool → Nat → List Item → List Item
  | 0, _, _, todo => todo
  | f + 1, bs, n, todo => match n with
    | 0 => todo
    | n + 1 => match todo with
      | [] => []
      | .code c :: k => (match c with
        | .loop b => (match bs with | [] => todo | _ :: bs => dsr f bs (n + 1) (.code b :: .inLoop b :: k))
        | .cond _ t e => (match bs with | [] => todo | b :: bs => dsr f bs (n + 1) ((match b with | true => .code t | false => .code e) :: k))
        | .ret => todo
        | .region _ _ _ => dsr f bs n k
        | .seq a b => dsr f bs (n + 1) (.code a :: .code b :: k)
        | .block id b => dsr f bs (n + 1) (.code b :: .inBlock id :: k)
        | .scope b => dsr f bs (n + 1) (.code b :: .inScope b :: k)
        | .exit id => (match exitTo id k with | some k' => dsr f bs (n + 1) k' | none => [])
        | .goto l => (match gotoIn l k with | some k' => dsr f bs (n + 1) k' | none => [])
        | _ => dsr f bs (n + 1) k)
      | .inLoop _ :: _ => todo
      | _ :: k => dsr f bs (n + 1) k

end Go.Cn
end
noncomputable section
namespace Go.Cn
variable {P : Program} {α : Type} {enc : α → List CV} {sz : Nat}

theorem casK {c : Prop} [Decidable c] {β : Type} {a b : Option β} {r : β} {p : Prop} (hc : c) (h : (if c then a else b) = some r) (k : a = some r → p) : p := k (by rw [if_pos hc] at h; exact h)
theorem casN {c : Prop} [Decidable c] {β : Type} {a b : Option β} {r : β} {p : Prop} (hc : ¬ c) (h : (if c then a else b) = some r) (k : b = some r → p) : p := k (by rw [if_neg hc] at h; exact h)

end Go.Cn
end
noncomputable section
namespace Go.Cn
variable {P : Program} {α : Type} {enc : α → List CV} {sz : Nat}

theorem clean_fnL {f : Fn} {a c : List CV} (ha : CleanL a) (hc : CleanL c) : ub0 (.fn f a c) := fun E ρ' L' v h => by
  cases h with
  | fn _ _ _ fs cs h1 h2 h3 h4 =>
    exact .fn f a c fs cs h1 h2 (fun i x v hx hv => ua9 ha x (List.mem_of_getElem? hx) E ρ' L' v (h3 i x v hx hv)) (fun i x v hx hv => ua9 hc x (List.mem_of_getElem? hx) E ρ' L' v (h4 i x v hx hv))

theorem reads_fnL {Z : Prop} {H : ua8} {f : Fn} {a a' c c' : List CV} (ha : ReadsL Z H a a') (hc : ReadsL Z H c c') : Reads Z H (.fn f a c) (.fn f a' c') := by
  intro E v hH hv
  obtain ⟨l1, g1⟩ := uf7 ha
  obtain ⟨l2, g2⟩ := uf7 hc
  cases hv with
  | fn _ _ _ fs cs h1 h2 h3 h4 =>
    refine .fn f a' c' fs cs (by rw [h1, l1]) (by rw [h2, l2]) (fun i x v hx hv => ?_) (fun i x v hx hv => ?_)
    · have hlt : i < a.length := by
        rw [l1]
        rcases Nat.lt_or_ge i a'.length with h' | h'
        · exact h'
        · rw [List.getElem?_eq_none h'] at hx; simp at hx
      exact g1 i a[i] x (List.getElem?_eq_getElem hlt) hx E v hH (h3 i _ v (List.getElem?_eq_getElem hlt) hv)
    · have hlt : i < c.length := by
        rw [l2]
        rcases Nat.lt_or_ge i c'.length with h' | h'
        · exact h'
        · rw [List.getElem?_eq_none h'] at hx; simp at hx
      exact g2 i c[i] x (List.getElem?_eq_getElem hlt) hx E v hH (h4 i _ v (List.getElem?_eq_getElem hlt) hv)

theorem slice_from_ro {t e : TypeId} {l : List α} {lo : Int} {k : IntKind} {H : ua8} (hT : P.underlying t = some (.slice e)) (hs : tsize P e = some sz) (h : (0 : Int) ≤ lo ∧ lo ≤ (l.length : Int)) :
    cslice P t (.ro sz (l.map enc) none) (some (.int k lo)) none none H = some (.ro sz ((l.drop lo.toNat).map enc) none) := by
  have h0 : ¬ lo < 0 := by omega
  have h1 : Nat.ble lo.toNat l.length = true := Nat.ble_eq_true_of_le (by omega)
  have hb : cbounds l.length l.length none (some (.int k lo)) none none = some (lo.toNat, l.length, none) := by
    show (match (match (some (CV.int k lo) : Option CV) with | some v => cbound v l.length | none => some 0) with | none => none | some x => some (x, l.length, none)) = _
    simp only [cbound, h0, if_false, h1, if_true]
  unfold cslice
  simp only [hT, hs, Nat.beq_refl, Bool.true_or, if_true, List.length_map, hb, capSub]
  rw [List.map_drop, List.take_of_length_le (by simp)]

theorem append_live_zero {ts : Array TypeId} {t e : TypeId} {by' n lo : Nat} {z : List CV} {H : ua8} {l : List α} {cap cap' : Option Nat} {s2 b len : Nat} (h0 : ts[0]? = some t) (hT : P.underlying t = some (.slice e)) (hs : tsize P e = some sz) (hb : tbytes P e = some by') (hz : czero P e = some z) (hzl : z.length = sz) (hn : noZeros P ts[1]? = true)
    (hl : l.length = 0) : cappend P ts (.slice s2 b 0 len cap) (.ro sz (l.map enc) cap') H n lo = some (.slice s2 b 0 len cap, H, n) := by
  have : l = [] := List.length_eq_zero_iff.1 hl
  subst this
  unfold cappend
  simp only [h0, hT, hs, hb, hz, celems, hn, hzl, List.map_nil, List.length_nil]
  simp

end Go.Cn
end
noncomputable section
namespace Go.Cn

/-! ### one block is given up -/
def Env.frz (E : Env) (b : Nat) : Env := { E with L := fun c => E.L c ∧ c ≠ b, I := fun r => E.I r ∨ (E.L b ∧ E.ρ b = some r) }

theorem frz_ex {E : Env} {b : Nat} : Ex E (E.frz b) where
  fwd _ _ h := h
  L _ _ hl := hl.1
  I r hr := ⟨.inl hr, rfl⟩
  sz _ := Nat.le_refl _
  grow := Nat.le_refl _
  out r hr hn := ⟨rfl, fun c hl => hn c hl.1⟩
  newI r hr := by
    rcases hr with h | ⟨hl, h⟩
    · exact .inl h
    · exact .inr (.inr ⟨b, hl, h⟩)
  io := .refl _

/-- once block b is given up, y reads as x -/
def FzB (H : ua8) (b : Nat) (y x : CV) : Prop := ∀ (E : Env) (v : Value), HR E H → VR E y v → VR (E.frz b) x v

theorem ud7 {H : ua8} {b : Nat} {y : CV} : FzB H b y y := fun E v hH hv => hv.mono frz_ex

theorem fz_lens {H : ua8} {b sz c off m m' : Nat} {cap : Option Nat} (h : m' = m) : FzB H b (.slice sz c off m cap) (.slice sz c off m' cap) := by subst h; exact ud7

theorem fz_slice {H : ua8} {sz b off len : Nat} {cap : Option Nat} {blk : List CV} {xs : List (List CV)} (hg : hget H b = some blk) (hl : xs.length = len) (hs : ∀ c ∈ xs, c.length = sz)
    (hx : ∀ (i j : Nat) c x, xs[i]? = some c → c[j]? = some x → blk[off + i * sz + j]? = some x) : FzB H b (.slice sz b off len cap) (.ro sz xs none) := by
  intro E v hH hv
  cases hv with
  | slice _ _ _ _ _ ad cap' h1 h2 h3 h4 =>
    obtain ⟨r, hr, c', el, lo, hi, hc, hf, hs', hxx⟩ := hH.get b blk hg
    obtain ⟨rfl, hB⟩ := h2 r hr
    subst hl
    have key : ∀ (i j : Nat) c x, xs[i]? = some c → c[j]? = some x → off + i * sz + j < c'.size := fun i j c x hi hj => by
      have hy := hx i j c x hi hj
      have hlt : off + i * sz + j < blk.length := by
        rcases Nat.lt_or_ge (off + i * sz + j) blk.length with h' | h'
        · exact h'
        · rw [List.getElem?_eq_none h'] at hy; simp at hy
      omega
    refine .ro sz xs none (some ⟨r, off, none⟩) cap' r off (fun i j => c'.getD (off + i * sz + j) undef) h3 (fun c hc => by simp at hc) (fun _ => ⟨rfl, .inr ⟨hH.live b blk hg, hr⟩⟩) hs (fun i j c x hi hj => ?_) (fun i j c x hi hj => ?_)
    · have := key i j c x hi hj
      show World.cell? E.w _ = _
      simp [World.cell?, hc, this]
    · have := key i j c x hi hj
      refine (hxx _ x _ (hx i j c x hi hj) ?_).mono frz_ex
      simp [this]

theorem fz_ptr {H : ua8} {b off : Nat} {blk : List CV} (hg : hget H b = some blk) : FzB H b (.ptr b off) (.rop blk off) := by
  intro E v hH hv
  cases hv with
  | ptr _ _ ad h1 h2 =>
    obtain ⟨r, hr, c', el, lo, hi, hc, hf, hs', hxx⟩ := hH.get b blk hg
    obtain rfl := h2 r hr
    have key : ∀ (j : Nat) x, blk[j]? = some x → j < c'.size := fun j x hj => by
      have : j < blk.length := by
        rcases Nat.lt_or_ge j blk.length with h' | h'
        · exact h'
        · rw [List.getElem?_eq_none h'] at hj; simp at hj
      omega
    have hI : (E.frz b).I r := .inr ⟨hH.live b blk hg, hr⟩
    have := VR.rop (E := E.frz b) blk off r 0 (fun j => c'.getD j undef) hI (fun j x hj => by
      have := key j x hj
      show World.cell? E.w _ = _
      simp [World.cell?, hc, this]) (fun j x hj => by
      have := key j x hj
      refine (hxx j x _ hj ?_).mono frz_ex
      simp [this])
    rw [Nat.zero_add] at this
    exact this

def FzL (H : ua8) (b : Nat) : List CV → List CV → Prop
  | [], [] => True
  | y :: ys, x :: xs => FzB H b y x ∧ FzL H b ys xs
  | _, _ => False

theorem ue0 {H : ua8} {b : Nat} : ∀ (l : List CV), FzL H b l l
  | [] => trivial
  | _ :: l => ⟨ud7, ue0 l⟩
theorem fzL_append {H : ua8} {b : Nat} : ∀ {a a' c c' : List CV}, FzL H b a a' → FzL H b c c' → FzL H b (a ++ c) (a' ++ c')
  | [], [], _, _, _, h => h
  | _ :: _, _ :: _, _, _, h, h' => ⟨h.1, fzL_append h.2 h'⟩
theorem fzL_get {H : ua8} {b : Nat} : ∀ {ys xs : List CV}, FzL H b ys xs → ys.length = xs.length ∧ ∀ (i : Nat) y x, ys[i]? = some y → xs[i]? = some x → FzB H b y x
  | [], [], _ => ⟨rfl, fun i y x h => by simp at h⟩
  | y :: ys, x :: xs, h => by
    obtain ⟨h1, h2⟩ := fzL_get h.2
    refine ⟨by simp [h1], fun i y' x' hy hx => ?_⟩
    cases i with
    | zero => simp at hy hx; subst hy; subst hx; exact h.1
    | succ i => exact h2 i y' x' (by simpa using hy) (by simpa using hx)

def FzHeap (H0 : ua8) (b : Nat) : ua8 → ua8 → Prop
  | [], [] => True
  | (c, blk) :: r, K => (c = b ∧ FzHeap H0 b r K) ∨ (∃ blk' K', K = (c, blk') :: K' ∧ c ≠ b ∧ FzL H0 b blk blk' ∧ FzHeap H0 b r K')
  | [], _ :: _ => False

theorem uk6 {H0 : ua8} {b : Nat} : ∀ {H K : ua8}, FzHeap H0 b H K → ∀ c blk', hget K c = some blk' → c ≠ b ∧ ∃ blk, hget H c = some blk ∧ FzL H0 b blk blk'
  | [], [], _, c, blk', h => by simp [uc2] at h
  | (c0, blk0) :: r, K, h, c, blk', hc => by
    simp only [FzHeap] at h
    rcases h with ⟨rfl, h⟩ | ⟨blk1, K', rfl, hne, hf, h⟩
    · obtain ⟨g1, blk, g2, g3⟩ := uk6 h c blk' hc
      exact ⟨g1, blk, by rw [ub2, if_neg (fun e => g1 e.symm)]; exact g2, g3⟩
    · rw [ub2] at hc
      split at hc
      · next e => subst e; cases hc; exact ⟨hne, blk0, by rw [ub2, if_pos rfl], hf⟩
      · next e =>
        obtain ⟨g1, blk, g2, g3⟩ := uk6 h c blk' hc
        exact ⟨g1, blk, by rw [ub2, if_neg e]; exact g2, g3⟩

def FzTm (H0 : ua8) (b : Nat) : CTm → CTm → Prop
  | [], [] => True
  | (t, y) :: r, (u, x) :: r' => t = u ∧ FzB H0 b y x ∧ FzTm H0 b r r'
  | _, _ => False

theorem fzTm_get {H0 : ua8} {b : Nat} : ∀ {a c : CTm}, FzTm H0 b a c → ∀ t x, tget c t = some x → ∃ y, tget a t = some y ∧ FzB H0 b y x
  | [], [], _, t, x, h => by simp [uf1] at h
  | (u, y) :: r, (u', x') :: r', h, t, x, hx => by
    obtain ⟨rfl, h1, h2⟩ := h
    rw [uc7] at hx
    split at hx
    · next e => subst e; cases hx; exact ⟨y, by rw [uc7, if_pos rfl], h1⟩
    · next e =>
      obtain ⟨z, hz, hf⟩ := fzTm_get h2 t x hx
      exact ⟨z, by rw [uc7, if_neg e]; exact hz, hf⟩

theorem wk_frz {n0 top n b : Nat} {tm tm' : CTm} {H K : ua8} (hn : Nat.ble n top = true) (hn0 : Nat.ble n0 n = true) (hT : FzTm H b tm tm') (hH : FzHeap H b H K) : Wk n0 top ⟨tm, H, n⟩ ⟨tm', K, n⟩ := by
  refine ⟨Nat.le_of_ble_eq_true hn, Nat.le_of_ble_eq_true hn0, fun P f N todo Q h E0 E a bf callers h1 h2 h3 h4 h5 h6 h7 => ?_⟩
  refine h E0 (E.frz b) a bf callers h1 h2 h3 (h4.trans frz_ex) h5 ⟨⟨fun c blk' hc => ?_, fun c blk' hc => ?_, fun c c' r l l' => h6.heap.inj c c' r l.1 l'.1, fun c r l hc => ?_, fun r hr => ?_⟩, fun c blk' hc => ?_, fun t x hx => ?_, h6.size, h6.defers⟩ h7
  · obtain ⟨g1, blk, g2, g3⟩ := uk6 hH c blk' hc
    obtain ⟨r, hr, c', el, lo, hi, hcc, hf, hs, hx⟩ := h6.heap.get c blk g2
    obtain ⟨k1, k2⟩ := fzL_get g3
    refine ⟨r, hr, c', el, lo, hi, hcc, hf, by rw [← k1]; exact hs, fun j x v hj hv => ?_⟩
    have hlt : j < blk.length := by
      rw [k1]
      rcases Nat.lt_or_ge j blk'.length with h' | h'
      · exact h'
      · rw [List.getElem?_eq_none h'] at hj; simp at hj
    exact k2 j blk[j] x (List.getElem?_eq_getElem hlt) hj E v h6.heap (hx j _ v (List.getElem?_eq_getElem hlt) hv)
  · obtain ⟨g1, blk, g2, g3⟩ := uk6 hH c blk' hc
    exact ⟨h6.heap.live c blk g2, g1⟩
  · obtain ⟨a1, a2⟩ := h6.heap.lt c r l.1 hc
    refine ⟨fun hI => ?_, a2⟩
    rcases hI with hI | ⟨hl, hb⟩
    · exact a1 hI
    · exact l.2 (h6.heap.inj c b r l.1 hl hc hb)
  · rcases hr with hr | ⟨hl, hb⟩
    · exact h6.heap.Ilt r hr
    · exact (h6.heap.lt b r hl hb).2
  · obtain ⟨g1, blk, g2, g3⟩ := uk6 hH c blk' hc
    exact h6.keys c blk g2
  · obtain ⟨y, hy, hf⟩ := fzTm_get hT t x hx
    exact hf E _ h6.heap (h6.tmps t y hy)

/-! ### a row of read-only elements, and living ones behind it -/
section
variable {P : Program} {α : Type} {enc : α → List CV} {sz : Nat}

theorem fz_row {H : ua8} {b len : Nat} {l : List α} {cap : Option Nat} (henc : ∀ a, (enc a).length = sz) (hg : hget H b = some (l.flatMap enc)) (hlen : len = l.length) : FzB H b (.slice sz b 0 len cap) (.ro sz (l.map enc) none) := by
  subst hlen
  refine fz_slice hg (by simp) (fun c hm => ?_) (fun i j c x hi hj => ?_)
  · obtain ⟨a, _, rfl⟩ := List.mem_map.1 hm; exact henc a
  · rw [List.getElem?_map] at hi
    cases hl : l[i]? with
    | none => rw [hl] at hi; simp at hi
    | some a =>
      rw [hl] at hi; simp at hi; subst hi
      have hlt : j < sz := by
        rcases Nat.lt_or_ge j sz with h' | h'
        · exact h'
        · rw [List.getElem?_eq_none (by rw [henc]; exact h')] at hj; simp at hj
      rw [Nat.zero_add, flat_get henc l i j a hl hlt, hj]

theorem fz_mix {H : ua8} {b : Nat} {l : List α} {d : α} {s x : CV} {tl : List CV} (he : enc d = [x]) (h : FzB H b s x) : FzL H b (l.flatMap enc ++ (s :: tl)) ((l ++ [d]).flatMap enc ++ tl) := by
  have e : (l ++ [d]).flatMap enc ++ tl = l.flatMap enc ++ (x :: tl) := by simp [List.flatMap_append, he]
  rw [e]
  exact fzL_append (ue0 _) ⟨h, ue0 _⟩

theorem ue3 {pi : List (Nat × Nat)} {tl tl' : List CV} (hs : ∀ a, ue1 (enc a)) (l : List α) (h : renL (lookR pi) tl = some tl') (ht : uj6 tl') : uk7 pi (l.flatMap enc ++ tl) (l.flatMap enc ++ tl') :=
  ⟨renL_append ((ub6 hs l).1 _) h, ui8 (ub6 hs l).2 ht⟩

/-- the index of the last of n + 1 elements -/
theorem um7 {n : Nat} (h : n < 1073741824) : 0 ≤ IntKind.wrap .i64 (((n + 1 : Nat) : Int) - 1) ∧ (IntKind.wrap .i64 (((n + 1 : Nat) : Int) - 1)).toNat = n := by
  have e : IntKind.wrap .i64 (((n + 1 : Nat) : Int) - 1) = (n : Int) := by
    unfold IntKind.wrap
    have e1 : IntKind.i64.bits = 64 := rfl
    have e2 : IntKind.i64.signed = true := rfl
    simp only [e1, e2, Bool.true_and]
    have e3 : ((2 : Int) ^ 64) = 18446744073709551616 := by decide
    have e4 : ((2 : Int) ^ (64 - 1)) = 9223372036854775808 := by decide
    rw [e3, e4]
    split
    · next hh => simp at hh; omega
    · next hh => simp at hh; omega
  rw [e]
  exact ⟨by omega, Int.toNat_natCast n⟩

theorem idx_mix {t e : TypeId} {n : Nat} {i : Int} {k : IntKind} {b : Nat} {cap : Option Nat} (hT : P.underlying t = some (.slice e)) (hs : tsize P e = some sz) (h : 0 ≤ i ∧ i.toNat = n) :
    cindexAddr P t (.slice sz b 0 (n + 1) cap) (.int k i) = some (.ptr b (i.toNat * sz)) := by
  unfold cindexAddr
  simp only [asIdx, hT, hs, Nat.beq_refl]
  rw [if_neg (by omega), if_pos (by rw [Nat.blt_eq]; omega)]
  simp

theorem mix_get {l : List α} {c : CV} {tl : List CV} (henc : ∀ a, (enc a).length = 1) : (l.flatMap enc ++ (c :: tl))[l.length]? = some c := by
  have : (l.flatMap enc).length = l.length := by rw [uf8 henc]; omega
  rw [List.getElem?_append_right (by omega), this]
  simp

theorem part_mix {t : TypeId} {l : List α} {i : Int} {c : CV} (hg : aggT P t = some false) (henc : ∀ a, (enc a).length = 1) (h : 0 ≤ i ∧ i.toNat = l.length) : cpart P t (l.flatMap enc ++ [c]) (i.toNat * 1 + 0) = some c := by
  unfold cpart
  simp only [hg]
  rw [h.2, Nat.mul_one, Nat.add_zero]
  exact mix_get henc

theorem store_mix {lo b : Nat} {l : List α} {i : Int} {c v : CV} (henc : ∀ a, (enc a).length = 1) (h : 0 ≤ i ∧ i.toNat = l.length) (hlo : lo ≤ b) (hv : v.cells = [v]) (hs : ui1 v = true) :
    uj9 lo b (i.toNat * 1 + 0) 1 (l.flatMap enc ++ [c]) v (l.flatMap enc ++ [v]) := by
  have hl : (l.flatMap enc).length = l.length := by rw [uf8 henc]; omega
  refine ⟨hlo, by rw [hv]; rfl, by simp only [List.length_append, List.length_singleton]; omega, by rw [hv]; simp [hs], ?_⟩
  rw [hv, h.2, Nat.mul_one, Nat.add_zero, ← hl]
  have := uj5 [v] (l.flatMap enc) [c] 0
  rw [Nat.add_zero] at this
  rw [this]
  rfl

theorem app_mix {z : List CV} {noz : Bool} {by' lo b : Nat} {l : List α} {c v : CV} (hz : z.length = 1) (hn : noz = true) (h1 : 1 ≤ by') (h2 : by' < 4294967296) (hlo : lo ≤ b) (henc : ∀ a, (enc a).length = 1)
    (hg : l.length < 1073741824) (hb : by' ≤ 32768) (hc : ui1 v = true) : ug6 z noz 1 1 1 by' lo b 0 (l.length + 1) 1 (l.flatMap enc ++ [c]) [v] (l.length + 2) (l.flatMap enc ++ [c, v]) where
  hz := hz
  hnoz := hn
  hssz := rfl
  hysz := rfl
  hby1 := h1
  hby2 := h2
  hoff := rfl
  hk := Nat.le_refl _
  hlo := hlo
  hgrow := by
    have : (l.length + 1 + 1) * by' ≤ 1073741825 * 32768 := Nat.mul_le_mul (by omega) hb
    unfold growBytes; omega
  hhave0 := by simp only [List.length_append, uf8 henc, List.length_singleton]; omega
  hscal := by simp [hc]
  hblk := by
    have hl : (l.flatMap enc).length = l.length := by rw [uf8 henc]; omega
    rw [List.take_of_length_le (by simp only [List.length_append, hl, List.length_singleton]; omega)]
    simp
  hlen := rfl

theorem frz_mix {K : ua8} {b : Nat} {l : List α} {d : α} {s x : CV} {cap : Option Nat} (henc : ∀ a, (enc a).length = 1) (hc : ∀ a, ∀ x ∈ enc a, ub0 x) (he : enc d = [x]) (hg : hget K b = some (l.flatMap enc ++ [s])) (h : Frz K s x) :
    Frz K (.slice 1 b 0 (l.length + 1) cap) (.ro 1 ((l ++ [d]).map enc) none) := by
  refine frz_slice hg (by simp) (fun c hm => ?_) (fun i j c y hi hj => ?_)
  · obtain ⟨a, _, rfl⟩ := List.mem_map.1 hm; exact henc a
  · rw [List.getElem?_map] at hi
    cases hl : (l ++ [d])[i]? with
    | none => rw [hl] at hi; simp at hi
    | some a =>
      rw [hl] at hi; simp at hi; subst hi
      have hj0 : j = 0 := by
        have := henc a
        rcases Nat.lt_or_ge j 1 with h' | h'
        · omega
        · rw [List.getElem?_eq_none (by omega)] at hj; simp at hj
      subst hj0
      have hfl : (l.flatMap enc).length = l.length := by rw [uf8 henc]; omega
      rcases Nat.lt_or_ge i l.length with hi' | hi'
      · rw [List.getElem?_append_left hi'] at hl
        refine ⟨y, ?_, ua4 (hc a y (List.mem_of_getElem? hj))⟩
        rw [List.getElem?_append_left (by omega)]
        have := flat_get henc l i 0 a hl (by omega)
        rw [Nat.zero_add, this, hj]
      · have hlt : i < (l ++ [d]).length := by
          rcases Nat.lt_or_ge i (l ++ [d]).length with h' | h'
          · exact h'
          · rw [List.getElem?_eq_none h'] at hl; simp at hl
        have hi2 : i = l.length := by simp at hlt; omega
        subst hi2
        rw [List.getElem?_append_right (Nat.le_refl _)] at hl
        simp at hl
        subst hl
        rw [he] at hj
        simp at hj
        subst hj
        refine ⟨s, ?_, h⟩
        rw [Nat.zero_add, Nat.mul_one, Nat.add_zero]
        exact mix_get henc

theorem append_lit_all {ts : Array TypeId} {t e : TypeId} {by' n lo : Nat} {z : List CV} {H : ua8} {l : List α} {cap : Option Nat} {b : Nat} (h0 : ts[0]? = some t) (hT : P.underlying t = some (.slice e)) (hs : tsize P e = some sz) (hb : tbytes P e = some by') (hz : czero P e = some z) (hzl : z.length = sz) (hn : noZeros P ts[1]? = true)
    (h1 : 1 ≤ by') (h2 : by' ≤ 65536) (hl : ¬ l.length = 0) (hg : l.length < 1073741824) (hgt : hget H b = some []) :
    cappend P ts (.slice sz b 0 0 (some 0)) (.ro sz (l.map enc) cap) H n lo = some (.slice sz n 0 l.length none, (n, l.flatMap enc) :: H, n + 1) := by
  have hz' : Nat.beq l.length 0 = false := by rw [← Bool.not_eq_true]; intro hh; exact hl (Nat.eq_of_beq_eq_true hh)
  have hb0 : Nat.beq by' 0 = false := by rw [← Bool.not_eq_true]; intro hh; have := Nat.eq_of_beq_eq_true hh; omega
  have hb1 : Nat.ble 4294967296 by' = false := by rw [← Bool.not_eq_true]; intro hh; have := Nat.le_of_ble_eq_true hh; omega
  have hb2 : Nat.ble (0 + l.length) 0 = false := by rw [← Bool.not_eq_true]; intro hh; have := Nat.le_of_ble_eq_true hh; omega
  have hb3 : Nat.ble ((0 + l.length) * by') growBytes = true := Nat.ble_eq_true_of_le (by
    have : (0 + l.length) * by' ≤ 1073741824 * 65536 := Nat.mul_le_mul (by omega) h2
    unfold growBytes; omega)
  have hb4 : Nat.ble (0 + 0 * sz) 0 = true := Nat.ble_eq_true_of_le (by omega)
  unfold cappend
  simp only [h0, hT, hs, hb, hz, celems, hn, hzl, List.length_map, hz', hb0, hb1, List.length_nil, hb2, hb3, hgt, hb4]
  simp [List.flatMap]
end
end Go.Cn
end
