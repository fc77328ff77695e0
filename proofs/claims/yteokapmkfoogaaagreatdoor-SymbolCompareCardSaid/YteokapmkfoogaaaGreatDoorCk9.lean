/- The canonical calculus: one block is given up for good while the others live on; blocks that hold living slices behind a row of read-only ones. -/
import Derived.Test.YteokapmkfoogaaaGreatDoorCk8
set_option linter.unusedVariables false
noncomputable section
namespace Go.Cn

/-! ### one block is given up -/
def Env.frz (E : Env) (b : Nat) : Env := { E with L := fun c => E.L c ∧ c ≠ b, I := fun r => E.I r ∨ (E.L b ∧ E.ρ b = some r) }

theorem frz_ex {E : Env} {b : Nat} : Ex E (E.frz b) where
  fwd _ _ h := h
  L _ _ hl := hl.1
  I r hr := ⟨.inl hr, rfl⟩
  sz _ := Nat.le_refl _
  grow := Nat.le_refl _
  out r hr hn := ⟨rfl, fun c hl => hn c hl.1⟩
  newI r hr := by
    rcases hr with h | ⟨hl, h⟩
    · exact .inl h
    · exact .inr (.inr ⟨b, hl, h⟩)
  io := .refl _

/-- once block b is given up, y reads as x -/
def FzB (H : CHeap) (b : Nat) (y x : CV) : Prop := ∀ (E : Env) (v : Value), HR E H → VR E y v → VR (E.frz b) x v

theorem fz_same {H : CHeap} {b : Nat} {y : CV} : FzB H b y y := fun E v hH hv => hv.mono frz_ex

theorem fz_lens {H : CHeap} {b sz c off m m' : Nat} {cap : Option Nat} (h : m' = m) : FzB H b (.slice sz c off m cap) (.slice sz c off m' cap) := by subst h; exact fz_same

theorem fz_slice {H : CHeap} {sz b off len : Nat} {cap : Option Nat} {blk : List CV} {xs : List (List CV)} (hg : hget H b = some blk) (hl : xs.length = len) (hs : ∀ c ∈ xs, c.length = sz)
    (hx : ∀ (i j : Nat) c x, xs[i]? = some c → c[j]? = some x → blk[off + i * sz + j]? = some x) : FzB H b (.slice sz b off len cap) (.ro sz xs none) := by
  intro E v hH hv
  cases hv with
  | slice _ _ _ _ _ ad cap' h1 h2 h3 h4 =>
    obtain ⟨r, hr, c', el, lo, hi, hc, hf, hs', hxx⟩ := hH.get b blk hg
    obtain ⟨rfl, hB⟩ := h2 r hr
    subst hl
    have key : ∀ (i j : Nat) c x, xs[i]? = some c → c[j]? = some x → off + i * sz + j < c'.size := fun i j c x hi hj => by
      have hy := hx i j c x hi hj
      have hlt : off + i * sz + j < blk.length := by
        rcases Nat.lt_or_ge (off + i * sz + j) blk.length with h' | h'
        · exact h'
        · rw [List.getElem?_eq_none h'] at hy; simp at hy
      omega
    refine .ro sz xs none (some ⟨r, off, none⟩) cap' r off (fun i j => c'.getD (off + i * sz + j) undef) h3 (fun c hc => by simp at hc) (fun _ => ⟨rfl, .inr ⟨hH.live b blk hg, hr⟩⟩) hs (fun i j c x hi hj => ?_) (fun i j c x hi hj => ?_)
    · have := key i j c x hi hj
      show World.cell? E.w _ = _
      simp [World.cell?, hc, this]
    · have := key i j c x hi hj
      refine (hxx _ x _ (hx i j c x hi hj) ?_).mono frz_ex
      simp [this]

theorem fz_ptr {H : CHeap} {b off : Nat} {blk : List CV} (hg : hget H b = some blk) : FzB H b (.ptr b off) (.rop blk off) := by
  intro E v hH hv
  cases hv with
  | ptr _ _ ad h1 h2 =>
    obtain ⟨r, hr, c', el, lo, hi, hc, hf, hs', hxx⟩ := hH.get b blk hg
    obtain rfl := h2 r hr
    have key : ∀ (j : Nat) x, blk[j]? = some x → j < c'.size := fun j x hj => by
      have : j < blk.length := by
        rcases Nat.lt_or_ge j blk.length with h' | h'
        · exact h'
        · rw [List.getElem?_eq_none h'] at hj; simp at hj
      omega
    have hI : (E.frz b).I r := .inr ⟨hH.live b blk hg, hr⟩
    have := VR.rop (E := E.frz b) blk off r 0 (fun j => c'.getD j undef) hI (fun j x hj => by
      have := key j x hj
      show World.cell? E.w _ = _
      simp [World.cell?, hc, this]) (fun j x hj => by
      have := key j x hj
      refine (hxx j x _ hj ?_).mono frz_ex
      simp [this])
    rw [Nat.zero_add] at this
    exact this

def FzL (H : CHeap) (b : Nat) : List CV → List CV → Prop
  | [], [] => True
  | y :: ys, x :: xs => FzB H b y x ∧ FzL H b ys xs
  | _, _ => False

theorem fzL_refl {H : CHeap} {b : Nat} : ∀ (l : List CV), FzL H b l l
  | [] => trivial
  | _ :: l => ⟨fz_same, fzL_refl l⟩
theorem fzL_append {H : CHeap} {b : Nat} : ∀ {a a' c c' : List CV}, FzL H b a a' → FzL H b c c' → FzL H b (a ++ c) (a' ++ c')
  | [], [], _, _, _, h => h
  | _ :: _, _ :: _, _, _, h, h' => ⟨h.1, fzL_append h.2 h'⟩
theorem fzL_get {H : CHeap} {b : Nat} : ∀ {ys xs : List CV}, FzL H b ys xs → ys.length = xs.length ∧ ∀ (i : Nat) y x, ys[i]? = some y → xs[i]? = some x → FzB H b y x
  | [], [], _ => ⟨rfl, fun i y x h => by simp at h⟩
  | y :: ys, x :: xs, h => by
    obtain ⟨h1, h2⟩ := fzL_get h.2
    refine ⟨by simp [h1], fun i y' x' hy hx => ?_⟩
    cases i with
    | zero => simp at hy hx; subst hy; subst hx; exact h.1
    | succ i => exact h2 i y' x' (by simpa using hy) (by simpa using hx)

def FzHeap (H0 : CHeap) (b : Nat) : CHeap → CHeap → Prop
  | [], [] => True
  | (c, blk) :: r, K => (c = b ∧ FzHeap H0 b r K) ∨ (∃ blk' K', K = (c, blk') :: K' ∧ c ≠ b ∧ FzL H0 b blk blk' ∧ FzHeap H0 b r K')
  | [], _ :: _ => False

theorem fzHeap_get {H0 : CHeap} {b : Nat} : ∀ {H K : CHeap}, FzHeap H0 b H K → ∀ c blk', hget K c = some blk' → c ≠ b ∧ ∃ blk, hget H c = some blk ∧ FzL H0 b blk blk'
  | [], [], _, c, blk', h => by simp [hget_nil] at h
  | (c0, blk0) :: r, K, h, c, blk', hc => by
    simp only [FzHeap] at h
    rcases h with ⟨rfl, h⟩ | ⟨blk1, K', rfl, hne, hf, h⟩
    · obtain ⟨g1, blk, g2, g3⟩ := fzHeap_get h c blk' hc
      exact ⟨g1, blk, by rw [hget_cons, if_neg (fun e => g1 e.symm)]; exact g2, g3⟩
    · rw [hget_cons] at hc
      split at hc
      · next e => subst e; cases hc; exact ⟨hne, blk0, by rw [hget_cons, if_pos rfl], hf⟩
      · next e =>
        obtain ⟨g1, blk, g2, g3⟩ := fzHeap_get h c blk' hc
        exact ⟨g1, blk, by rw [hget_cons, if_neg e]; exact g2, g3⟩

def FzTm (H0 : CHeap) (b : Nat) : CTm → CTm → Prop
  | [], [] => True
  | (t, y) :: r, (u, x) :: r' => t = u ∧ FzB H0 b y x ∧ FzTm H0 b r r'
  | _, _ => False

theorem fzTm_get {H0 : CHeap} {b : Nat} : ∀ {a c : CTm}, FzTm H0 b a c → ∀ t x, tget c t = some x → ∃ y, tget a t = some y ∧ FzB H0 b y x
  | [], [], _, t, x, h => by simp [tget_nil] at h
  | (u, y) :: r, (u', x') :: r', h, t, x, hx => by
    obtain ⟨rfl, h1, h2⟩ := h
    rw [tget_cons] at hx
    split at hx
    · next e => subst e; cases hx; exact ⟨y, by rw [tget_cons, if_pos rfl], h1⟩
    · next e =>
      obtain ⟨z, hz, hf⟩ := fzTm_get h2 t x hx
      exact ⟨z, by rw [tget_cons, if_neg e]; exact hz, hf⟩

theorem wk_frz {n0 top n b : Nat} {tm tm' : CTm} {H K : CHeap} (hn : Nat.ble n top = true) (hn0 : Nat.ble n0 n = true) (hT : FzTm H b tm tm') (hH : FzHeap H b H K) : Wk n0 top ⟨tm, H, n⟩ ⟨tm', K, n⟩ := by
  refine ⟨Nat.le_of_ble_eq_true hn, Nat.le_of_ble_eq_true hn0, fun P f N todo Q h E0 E a bf callers h1 h2 h3 h4 h5 h6 h7 => ?_⟩
  refine h E0 (E.frz b) a bf callers h1 h2 h3 (h4.trans frz_ex) h5 ⟨⟨fun c blk' hc => ?_, fun c blk' hc => ?_, fun c c' r l l' => h6.heap.inj c c' r l.1 l'.1, fun c r l hc => ?_, fun r hr => ?_⟩, fun c blk' hc => ?_, fun t x hx => ?_, h6.size, h6.defers⟩ h7
  · obtain ⟨g1, blk, g2, g3⟩ := fzHeap_get hH c blk' hc
    obtain ⟨r, hr, c', el, lo, hi, hcc, hf, hs, hx⟩ := h6.heap.get c blk g2
    obtain ⟨k1, k2⟩ := fzL_get g3
    refine ⟨r, hr, c', el, lo, hi, hcc, hf, by rw [← k1]; exact hs, fun j x v hj hv => ?_⟩
    have hlt : j < blk.length := by
      rw [k1]
      rcases Nat.lt_or_ge j blk'.length with h' | h'
      · exact h'
      · rw [List.getElem?_eq_none h'] at hj; simp at hj
    exact k2 j blk[j] x (List.getElem?_eq_getElem hlt) hj E v h6.heap (hx j _ v (List.getElem?_eq_getElem hlt) hv)
  · obtain ⟨g1, blk, g2, g3⟩ := fzHeap_get hH c blk' hc
    exact ⟨h6.heap.live c blk g2, g1⟩
  · obtain ⟨a1, a2⟩ := h6.heap.lt c r l.1 hc
    refine ⟨fun hI => ?_, a2⟩
    rcases hI with hI | ⟨hl, hb⟩
    · exact a1 hI
    · exact l.2 (h6.heap.inj c b r l.1 hl hc hb)
  · rcases hr with hr | ⟨hl, hb⟩
    · exact h6.heap.Ilt r hr
    · exact (h6.heap.lt b r hl hb).2
  · obtain ⟨g1, blk, g2, g3⟩ := fzHeap_get hH c blk' hc
    exact h6.keys c blk g2
  · obtain ⟨y, hy, hf⟩ := fzTm_get hT t x hx
    exact hf E _ h6.heap (h6.tmps t y hy)

/-! ### a row of read-only elements, and living ones behind it -/
section
variable {P : Program} {α : Type} {enc : α → List CV} {sz : Nat}

theorem fz_row {H : CHeap} {b len : Nat} {l : List α} {cap : Option Nat} (henc : ∀ a, (enc a).length = sz) (hg : hget H b = some (l.flatMap enc)) (hlen : len = l.length) : FzB H b (.slice sz b 0 len cap) (.ro sz (l.map enc) none) := by
  subst hlen
  refine fz_slice hg (by simp) (fun c hm => ?_) (fun i j c x hi hj => ?_)
  · obtain ⟨a, _, rfl⟩ := List.mem_map.1 hm; exact henc a
  · rw [List.getElem?_map] at hi
    cases hl : l[i]? with
    | none => rw [hl] at hi; simp at hi
    | some a =>
      rw [hl] at hi; simp at hi; subst hi
      have hlt : j < sz := by
        rcases Nat.lt_or_ge j sz with h' | h'
        · exact h'
        · rw [List.getElem?_eq_none (by rw [henc]; exact h')] at hj; simp at hj
      rw [Nat.zero_add, flat_get henc l i j a hl hlt, hj]

theorem fz_mix {H : CHeap} {b : Nat} {l : List α} {d : α} {s x : CV} {tl : List CV} (he : enc d = [x]) (h : FzB H b s x) : FzL H b (l.flatMap enc ++ (s :: tl)) ((l ++ [d]).flatMap enc ++ tl) := by
  have e : (l ++ [d]).flatMap enc ++ tl = l.flatMap enc ++ (x :: tl) := by simp [List.flatMap_append, he]
  rw [e]
  exact fzL_append (fzL_refl _) ⟨h, fzL_refl _⟩

theorem ren_mix {pi : List (Nat × Nat)} {tl tl' : List CV} (hs : ∀ a, Still (enc a)) (l : List α) (h : renL (lookR pi) tl = some tl') (ht : TidyL tl') : RenIs pi (l.flatMap enc ++ tl) (l.flatMap enc ++ tl') :=
  ⟨renL_append ((still_flat hs l).1 _) h, tidyL_append (still_flat hs l).2 ht⟩

/-- the index of the last of n + 1 elements -/
theorem last_ix {n : Nat} (h : n < 1073741824) : 0 ≤ IntKind.wrap .i64 (((n + 1 : Nat) : Int) - 1) ∧ (IntKind.wrap .i64 (((n + 1 : Nat) : Int) - 1)).toNat = n := by
  have e : IntKind.wrap .i64 (((n + 1 : Nat) : Int) - 1) = (n : Int) := by
    unfold IntKind.wrap
    have e1 : IntKind.i64.bits = 64 := rfl
    have e2 : IntKind.i64.signed = true := rfl
    simp only [e1, e2, Bool.true_and]
    have e3 : ((2 : Int) ^ 64) = 18446744073709551616 := by decide
    have e4 : ((2 : Int) ^ (64 - 1)) = 9223372036854775808 := by decide
    rw [e3, e4]
    split
    · next hh => simp at hh; omega
    · next hh => simp at hh; omega
  rw [e]
  exact ⟨by omega, Int.toNat_natCast n⟩

theorem idx_mix {t e : TypeId} {n : Nat} {i : Int} {k : IntKind} {b : Nat} {cap : Option Nat} (hT : P.underlying t = some (.slice e)) (hs : tsize P e = some sz) (h : 0 ≤ i ∧ i.toNat = n) :
    cindexAddr P t (.slice sz b 0 (n + 1) cap) (.int k i) = some (.ptr b (i.toNat * sz)) := by
  unfold cindexAddr
  simp only [asIdx, hT, hs, Nat.beq_refl]
  rw [if_neg (by omega), if_pos (by rw [Nat.blt_eq]; omega)]
  simp

theorem mix_get {l : List α} {c : CV} {tl : List CV} (henc : ∀ a, (enc a).length = 1) : (l.flatMap enc ++ (c :: tl))[l.length]? = some c := by
  have : (l.flatMap enc).length = l.length := by rw [flat_len henc]; omega
  rw [List.getElem?_append_right (by omega), this]
  simp

theorem part_mix {t : TypeId} {l : List α} {i : Int} {c : CV} (hg : aggT P t = some false) (henc : ∀ a, (enc a).length = 1) (h : 0 ≤ i ∧ i.toNat = l.length) : cpart P t (l.flatMap enc ++ [c]) (i.toNat * 1 + 0) = some c := by
  unfold cpart
  simp only [hg]
  rw [h.2, Nat.mul_one, Nat.add_zero]
  exact mix_get henc

theorem store_mix {lo b : Nat} {l : List α} {i : Int} {c v : CV} (henc : ∀ a, (enc a).length = 1) (h : 0 ≤ i ∧ i.toNat = l.length) (hlo : lo ≤ b) (hv : v.cells = [v]) (hs : Scalar v = true) :
    StoreIs lo b (i.toNat * 1 + 0) 1 (l.flatMap enc ++ [c]) v (l.flatMap enc ++ [v]) := by
  have hl : (l.flatMap enc).length = l.length := by rw [flat_len henc]; omega
  refine ⟨hlo, by rw [hv]; rfl, by simp only [List.length_append, List.length_singleton]; omega, by rw [hv]; simp [hs], ?_⟩
  rw [hv, h.2, Nat.mul_one, Nat.add_zero, ← hl]
  have := putCells_right [v] (l.flatMap enc) [c] 0
  rw [Nat.add_zero] at this
  rw [this]
  rfl

theorem app_mix {z : List CV} {noz : Bool} {by' lo b : Nat} {l : List α} {c v : CV} (hz : z.length = 1) (hn : noz = true) (h1 : 1 ≤ by') (h2 : by' < 4294967296) (hlo : lo ≤ b) (henc : ∀ a, (enc a).length = 1)
    (hg : l.length < 1073741824) (hb : by' ≤ 32768) (hc : Scalar v = true) : AppLive z noz 1 1 1 by' lo b 0 (l.length + 1) 1 (l.flatMap enc ++ [c]) [v] (l.length + 2) (l.flatMap enc ++ [c, v]) where
  hz := hz
  hnoz := hn
  hssz := rfl
  hysz := rfl
  hby1 := h1
  hby2 := h2
  hoff := rfl
  hk := Nat.le_refl _
  hlo := hlo
  hgrow := by
    have : (l.length + 1 + 1) * by' ≤ 1073741825 * 32768 := Nat.mul_le_mul (by omega) hb
    unfold growBytes; omega
  hhave0 := by simp only [List.length_append, flat_len henc, List.length_singleton]; omega
  hscal := by simp [hc]
  hblk := by
    have hl : (l.flatMap enc).length = l.length := by rw [flat_len henc]; omega
    rw [List.take_of_length_le (by simp only [List.length_append, hl, List.length_singleton]; omega)]
    simp
  hlen := rfl

theorem frz_mix {K : CHeap} {b : Nat} {l : List α} {d : α} {s x : CV} {cap : Option Nat} (henc : ∀ a, (enc a).length = 1) (hc : ∀ a, ∀ x ∈ enc a, Clean x) (he : enc d = [x]) (hg : hget K b = some (l.flatMap enc ++ [s])) (h : Frz K s x) :
    Frz K (.slice 1 b 0 (l.length + 1) cap) (.ro 1 ((l ++ [d]).map enc) none) := by
  refine frz_slice hg (by simp) (fun c hm => ?_) (fun i j c y hi hj => ?_)
  · obtain ⟨a, _, rfl⟩ := List.mem_map.1 hm; exact henc a
  · rw [List.getElem?_map] at hi
    cases hl : (l ++ [d])[i]? with
    | none => rw [hl] at hi; simp at hi
    | some a =>
      rw [hl] at hi; simp at hi; subst hi
      have hj0 : j = 0 := by
        have := henc a
        rcases Nat.lt_or_ge j 1 with h' | h'
        · omega
        · rw [List.getElem?_eq_none (by omega)] at hj; simp at hj
      subst hj0
      have hfl : (l.flatMap enc).length = l.length := by rw [flat_len henc]; omega
      rcases Nat.lt_or_ge i l.length with hi' | hi'
      · rw [List.getElem?_append_left hi'] at hl
        refine ⟨y, ?_, frz_clean (hc a y (List.mem_of_getElem? hj))⟩
        rw [List.getElem?_append_left (by omega)]
        have := flat_get henc l i 0 a hl (by omega)
        rw [Nat.zero_add, this, hj]
      · have hlt : i < (l ++ [d]).length := by
          rcases Nat.lt_or_ge i (l ++ [d]).length with h' | h'
          · exact h'
          · rw [List.getElem?_eq_none h'] at hl; simp at hl
        have hi2 : i = l.length := by simp at hlt; omega
        subst hi2
        rw [List.getElem?_append_right (Nat.le_refl _)] at hl
        simp at hl
        subst hl
        rw [he] at hj
        simp at hj
        subst hj
        refine ⟨s, ?_, h⟩
        rw [Nat.zero_add, Nat.mul_one, Nat.add_zero]
        exact mix_get henc

theorem idx_arr {t e : TypeId} {l : List α} {i : Int} {a : α} {k : IntKind} {b m : Nat} (hT : P.underlying t = some (.array m e)) (hs : tsize P e = some sz) (h : elt l i = some a) (hm : l.length = m) :
    cindexAddr P t (.ptr b 0) (.int k i) = some (.ptr b (i.toNat * sz)) := by
  obtain ⟨h1, h2, _⟩ := elt_get h
  unfold cindexAddr
  simp only [asIdx, hT, hs]
  rw [if_neg (by omega), if_pos (by rw [Nat.blt_eq]; omega)]
  simp

theorem append_lit_all {ts : Array TypeId} {t e : TypeId} {by' n lo : Nat} {z : List CV} {H : CHeap} {l : List α} {cap : Option Nat} {b : Nat} (h0 : ts[0]? = some t) (hT : P.underlying t = some (.slice e)) (hs : tsize P e = some sz) (hb : tbytes P e = some by') (hz : czero P e = some z) (hzl : z.length = sz) (hn : noZeros P ts[1]? = true)
    (h1 : 1 ≤ by') (h2 : by' ≤ 65536) (hl : ¬ l.length = 0) (hg : l.length < 1073741824) (hgt : hget H b = some []) :
    cappend P ts (.slice sz b 0 0 (some 0)) (.ro sz (l.map enc) cap) H n lo = some (.slice sz n 0 l.length none, (n, l.flatMap enc) :: H, n + 1) := by
  have hz' : Nat.beq l.length 0 = false := by rw [← Bool.not_eq_true]; intro hh; exact hl (Nat.eq_of_beq_eq_true hh)
  have hb0 : Nat.beq by' 0 = false := by rw [← Bool.not_eq_true]; intro hh; have := Nat.eq_of_beq_eq_true hh; omega
  have hb1 : Nat.ble 4294967296 by' = false := by rw [← Bool.not_eq_true]; intro hh; have := Nat.le_of_ble_eq_true hh; omega
  have hb2 : Nat.ble (0 + l.length) 0 = false := by rw [← Bool.not_eq_true]; intro hh; have := Nat.le_of_ble_eq_true hh; omega
  have hb3 : Nat.ble ((0 + l.length) * by') growBytes = true := Nat.ble_eq_true_of_le (by
    have : (0 + l.length) * by' ≤ 1073741824 * 65536 := Nat.mul_le_mul (by omega) h2
    unfold growBytes; omega)
  have hb4 : Nat.ble (0 + 0 * sz) 0 = true := Nat.ble_eq_true_of_le (by omega)
  unfold cappend
  simp only [h0, hT, hs, hb, hz, celems, hn, hzl, List.length_map, hz', hb0, hb1, List.length_nil, hb2, hb3, hgt, hb4]
  simp [List.flatMap]
end
end Go.Cn
