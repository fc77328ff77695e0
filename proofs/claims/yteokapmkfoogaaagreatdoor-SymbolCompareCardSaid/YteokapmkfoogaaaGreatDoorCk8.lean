/- The canonical calculus: functions as arguments, parts of read-only slices, an append of a whole read-only slice. -/
import Derived.Test.YteokapmkfoogaaaGreatDoorCk7
set_option linter.unusedVariables false
noncomputable section
namespace Go.Cn
variable {P : Program} {α : Type} {enc : α → List CV} {sz : Nat}

theorem clean_fnL {f : Fn} {a c : List CV} (ha : CleanL a) (hc : CleanL c) : Clean (.fn f a c) := fun E ρ' L' v h => by
  cases h with
  | fn _ _ _ fs cs h1 h2 h3 h4 =>
    exact .fn f a c fs cs h1 h2 (fun i x v hx hv => cleanL_mem ha x (List.mem_of_getElem? hx) E ρ' L' v (h3 i x v hx hv)) (fun i x v hx hv => cleanL_mem hc x (List.mem_of_getElem? hx) E ρ' L' v (h4 i x v hx hv))

theorem reads_fnL {Z : Prop} {H : CHeap} {f : Fn} {a a' c c' : List CV} (ha : ReadsL Z H a a') (hc : ReadsL Z H c c') : Reads Z H (.fn f a c) (.fn f a' c') := by
  intro E v hH hv
  obtain ⟨l1, g1⟩ := readsL_get ha
  obtain ⟨l2, g2⟩ := readsL_get hc
  cases hv with
  | fn _ _ _ fs cs h1 h2 h3 h4 =>
    refine .fn f a' c' fs cs (by rw [h1, l1]) (by rw [h2, l2]) (fun i x v hx hv => ?_) (fun i x v hx hv => ?_)
    · have hlt : i < a.length := by
        rw [l1]
        rcases Nat.lt_or_ge i a'.length with h' | h'
        · exact h'
        · rw [List.getElem?_eq_none h'] at hx; simp at hx
      exact g1 i a[i] x (List.getElem?_eq_getElem hlt) hx E v hH (h3 i _ v (List.getElem?_eq_getElem hlt) hv)
    · have hlt : i < c.length := by
        rw [l2]
        rcases Nat.lt_or_ge i c'.length with h' | h'
        · exact h'
        · rw [List.getElem?_eq_none h'] at hx; simp at hx
      exact g2 i c[i] x (List.getElem?_eq_getElem hlt) hx E v hH (h4 i _ v (List.getElem?_eq_getElem hlt) hv)

theorem reads_ptr {H : CHeap} {b : Nat} {blk blk' : List CV} (hg : hget H b = some blk) (hr : ReadsL True H blk blk') : Reads True H (.ptr b 0) (.rop blk' 0) := by
  intro E v hH hv
  obtain ⟨l1, g1⟩ := readsL_get hr
  cases hv with
  | ptr _ _ ad h1 h2 =>
    obtain ⟨r, hr, c', el, lo, hi, hc, hf, hs', hxx⟩ := hH.get b blk hg
    obtain rfl := h2 r hr
    have key : ∀ (j : Nat) x, blk'[j]? = some x → j < c'.size ∧ j < blk.length := fun j x hj => by
      have : j < blk'.length := by
        rcases Nat.lt_or_ge j blk'.length with h' | h'
        · exact h'
        · rw [List.getElem?_eq_none h'] at hj; simp at hj
      omega
    refine .rop blk' 0 r 0 (fun j => c'.getD j undef) (.inr ⟨trivial, b, hH.live b blk hg, hr⟩) (fun j x hj => ?_) (fun j x hj => ?_)
    · have := (key j x hj).1
      show World.cell? E.w _ = _
      simp [World.cell?, hc, this]
    · obtain ⟨k1, k2⟩ := key j x hj
      refine g1 j blk[j] x (List.getElem?_eq_getElem k2) hj E _ hH (hxx j _ _ (List.getElem?_eq_getElem k2) ?_)
      simp [k1]

theorem slice_from_ro {t e : TypeId} {l : List α} {lo : Int} {k : IntKind} {H : CHeap} (hT : P.underlying t = some (.slice e)) (hs : tsize P e = some sz) (h : (0 : Int) ≤ lo ∧ lo ≤ (l.length : Int)) :
    cslice P t (.ro sz (l.map enc) none) (some (.int k lo)) none none H = some (.ro sz ((l.drop lo.toNat).map enc) none) := by
  have h0 : ¬ lo < 0 := by omega
  have h1 : Nat.ble lo.toNat l.length = true := Nat.ble_eq_true_of_le (by omega)
  have hb : cbounds l.length l.length none (some (.int k lo)) none none = some (lo.toNat, l.length, none) := by
    show (match (match (some (CV.int k lo) : Option CV) with | some v => cbound v l.length | none => some 0) with | none => none | some x => some (x, l.length, none)) = _
    simp only [cbound, h0, if_false, h1, if_true]
  unfold cslice
  simp only [hT, hs, Nat.beq_refl, Bool.true_or, if_true, List.length_map, hb, capSub]
  rw [List.map_drop, List.take_of_length_le (by simp)]

theorem slice_to_ro {t e : TypeId} {l : List α} {hi : Int} {k : IntKind} {H : CHeap} (hT : P.underlying t = some (.slice e)) (hs : tsize P e = some sz) (h : (0 : Int) ≤ hi ∧ hi ≤ (l.length : Int)) :
    cslice P t (.ro sz (l.map enc) none) none (some (.int k hi)) none H = some (.ro sz ((l.take hi.toNat).map enc) none) := by
  have h0 : ¬ hi < 0 := by omega
  have h1 : Nat.ble hi.toNat l.length = true := Nat.ble_eq_true_of_le (by omega)
  have hb : cbounds l.length l.length none none (some (.int k hi)) none = some (0, hi.toNat, none) := by
    show (match cbound (.int k hi) l.length with | none => none | some h => some (0, h, none)) = _
    simp only [cbound, h0, if_false, h1, if_true]
  unfold cslice
  simp only [hT, hs, Nat.beq_refl, Bool.true_or, if_true, List.length_map, hb, capSub]
  simp

theorem append_live_zero {ts : Array TypeId} {t e : TypeId} {by' n lo : Nat} {z : List CV} {H : CHeap} {l : List α} {cap cap' : Option Nat} {s2 b len : Nat} (h0 : ts[0]? = some t) (hT : P.underlying t = some (.slice e)) (hs : tsize P e = some sz) (hb : tbytes P e = some by') (hz : czero P e = some z) (hzl : z.length = sz) (hn : noZeros P ts[1]? = true)
    (hl : l.length = 0) : cappend P ts (.slice s2 b 0 len cap) (.ro sz (l.map enc) cap') H n lo = some (.slice s2 b 0 len cap, H, n) := by
  have : l = [] := List.length_eq_zero_iff.1 hl
  subst this
  unfold cappend
  simp only [h0, hT, hs, hb, hz, celems, hn, hzl, List.map_nil, List.length_nil]
  simp

theorem append_live_all {ts : Array TypeId} {t e : TypeId} {by' n lo : Nat} {z : List CV} {H : CHeap} {l l0 : List α} {cap : Option Nat} {b len : Nat} (h0 : ts[0]? = some t) (hT : P.underlying t = some (.slice e)) (hs : tsize P e = some sz) (hb : tbytes P e = some by') (hz : czero P e = some z) (hzl : z.length = sz) (hn : noZeros P ts[1]? = true)
    (h1 : 1 ≤ by') (h2 : by' ≤ 65536) (hl : ¬ l.length = 0) (hg : l0.length + l.length < 1073741824) (henc : ∀ a, (enc a).length = sz) (hlen : len = l0.length) (hlo : lo ≤ b) (hgt : hget H b = some (l0.flatMap enc)) (hsc : ∀ a, (enc a).all Scalar = true := by intro a; rfl) :
    cappend P ts (.slice sz b 0 len none) (.ro sz (l.map enc) cap) H n lo = some (.slice sz n 0 (l0 ++ l).length none, (n, (l0 ++ l).flatMap enc) :: hdel H b, n + 1) := by
  subst hlen
  have hz' : Nat.beq l.length 0 = false := by rw [← Bool.not_eq_true]; intro hh; exact hl (Nat.eq_of_beq_eq_true hh)
  have hb0 : Nat.beq by' 0 = false := by rw [← Bool.not_eq_true]; intro hh; have := Nat.eq_of_beq_eq_true hh; omega
  have hb1 : Nat.ble 4294967296 by' = false := by rw [← Bool.not_eq_true]; intro hh; have := Nat.le_of_ble_eq_true hh; omega
  have hb3 : Nat.ble ((l0.length + l.length) * by') growBytes = true := Nat.ble_eq_true_of_le (by
    have : (l0.length + l.length) * by' ≤ 1073741824 * 65536 := Nat.mul_le_mul (by omega) h2
    unfold growBytes; omega)
  have hlo' : Nat.ble lo b = true := Nat.ble_eq_true_of_le hlo
  have hfl : (l0.flatMap enc).length = l0.length * sz := flat_len henc l0
  have hble : Nat.ble (l0.length * sz) (l0.flatMap enc).length = true := Nat.ble_eq_true_of_le (by omega)
  have hall : (List.map enc l).flatten.all Scalar = true := by
    rw [List.all_eq_true]
    intro x hx
    obtain ⟨r, hr, hx⟩ := List.mem_flatten.1 hx
    obtain ⟨a, _, rfl⟩ := List.mem_map.1 hr
    exact List.all_eq_true.1 (hsc a) x hx
  have htk : (l0.flatMap enc).take (l0.length * sz) = l0.flatMap enc := by rw [← hfl, List.take_length]
  unfold cappend
  simp only [h0, hT, hs, hb, hz, celems, hn, hzl, List.length_map, hz', hb0, hb1, hb3, hgt, hlo', hble, hall, htk, Nat.beq_refl]
  simp [List.flatMap_append, List.flatMap]

end Go.Cn
