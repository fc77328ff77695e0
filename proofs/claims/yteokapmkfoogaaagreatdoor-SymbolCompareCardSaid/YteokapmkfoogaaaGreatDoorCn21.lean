/- The canonical calculus, part 21: forgetting and renumbering. -/
import Derived.Test.YteokapmkfoogaaaGreatDoorCn20
set_option linter.unusedVariables false
set_option linter.unusedSimpArgs false
noncomputable section
namespace Go.Cn

mutual
/-- a value under other numbers; what is read-only is left as it is -/
def CV.ren (g : Nat → Option Nat) : CV → Option CV
  | .ptr b off => match g b with | some b' => some (.ptr b' off) | none => none
  | .slice sz b off len cap => match g b with | some b' => some (.slice sz b' off len cap) | none => none
  | .agg l => match renL g l with | some l' => some (.agg l') | none => none
  | .tup l => match renL g l with | some l' => some (.tup l') | none => none
  | .fn f a b => match renL g a, renL g b with | some a', some b' => some (.fn f a' b') | _, _ => none
  | x => some x
def renL (g : Nat → Option Nat) : List CV → Option (List CV)
  | [] => some []
  | x :: xs => match CV.ren g x, renL g xs with | some y, some ys => some (y :: ys) | _, _ => none
end

mutual
/-- what is read-only inside speaks of no number -/
def CV.Tidy : CV → Prop
  | .agg l => TidyL l
  | .tup l => TidyL l
  | .fn _ a b => TidyL a ∧ TidyL b
  | .rop c off => Clean (.rop c off)
  | .ro sz xs cap => Clean (.ro sz xs cap)
  | _ => True
def TidyL : List CV → Prop
  | [] => True
  | x :: xs => CV.Tidy x ∧ TidyL xs
end

theorem renL_get {g : Nat → Option Nat} : ∀ {xs ys : List CV}, renL g xs = some ys → ys.length = xs.length ∧ ∀ (i : Nat) x, xs[i]? = some x → ∃ y, ys[i]? = some y ∧ x.ren g = some y
  | [], ys, h => by simp [renL] at h; subst h; simp
  | x :: xs, ys, h => by
    simp only [renL] at h
    split at h <;> simp only [Option.some.injEq, reduceCtorEq] at h
    next y ys' h1 h2 =>
    subst h
    obtain ⟨a1, a2⟩ := renL_get h2
    refine ⟨by simp [a1], fun i x' hi => ?_⟩
    cases i with
    | zero => simp at hi; subst hi; exact ⟨y, by simp, h1⟩
    | succ i => simpa using a2 i x' (by simpa using hi)

theorem tidyL_get : ∀ {xs : List CV}, TidyL xs → ∀ (i : Nat) x, xs[i]? = some x → x.Tidy
  | [], _, i, x, h => by simp at h
  | y :: xs, ht, i, x, h => by
    cases i with
    | zero => simp at h; subst h; exact ht.1
    | succ i => exact tidyL_get ht.2 i x (by simpa using h)

def lookR : List (Nat × Nat) → Nat → Option Nat
  | [], _ => none
  | (b, c) :: r, k => match Nat.beq b k with | true => some c | false => lookR r k

/-- numbers between n0 and top are renamed, the others stay -/
def renN (n0 top : Nat) (pi : List (Nat × Nat)) (b : Nat) : Option Nat := match Nat.ble n0 b && Nat.blt b top with | true => lookR pi b | false => some b

def Env.ren (E : Env) (n0 top : Nat) (pi : List (Nat × Nat)) : Env :=
  { E with ρ := fun b => (renN n0 top pi b).bind E.ρ, L := fun b => ∃ b', renN n0 top pi b = some b' ∧ E.L b' }

theorem ren_inv {g : Nat → Option Nat} {x y : CV} (h : x.ren g = some y) : match y with
    | .ptr b' off => ∃ b, x = .ptr b off ∧ g b = some b'
    | .slice sz b' off len cap => ∃ b, x = .slice sz b off len cap ∧ g b = some b'
    | .agg l' => ∃ l, x = .agg l ∧ renL g l = some l'
    | .tup l' => ∃ l, x = .tup l ∧ renL g l = some l'
    | .fn f a' b' => ∃ a b, x = .fn f a b ∧ renL g a = some a' ∧ renL g b = some b'
    | y => x = y := by
  cases x <;> simp only [CV.ren] at h
  case ptr b off => split at h <;> simp only [Option.some.injEq, reduceCtorEq] at h; next b' hb => subst h; exact ⟨b, rfl, hb⟩
  case slice sz b off len cap => split at h <;> simp only [Option.some.injEq, reduceCtorEq] at h; next b' hb => subst h; exact ⟨b, rfl, hb⟩
  case agg l => split at h <;> simp only [Option.some.injEq, reduceCtorEq] at h; next b' hb => subst h; exact ⟨l, rfl, hb⟩
  case tup l => split at h <;> simp only [Option.some.injEq, reduceCtorEq] at h; next b' hb => subst h; exact ⟨l, rfl, hb⟩
  case fn f a b => split at h <;> simp only [Option.some.injEq, reduceCtorEq] at h; next a' b' h1 h2 => subst h; exact ⟨a, b, rfl, h1, h2⟩
  all_goals (simp only [Option.some.injEq] at h; subst h; rfl)

theorem vr_ren {E : Env} {n0 top : Nat} {pi : List (Nat × Nat)} {y : CV} {v : Value} (h : VR E y v) : ∀ {x : CV}, x.ren (renN n0 top pi) = some y → x.Tidy → VR (E.ren n0 top pi) x v := by
  have num : ∀ {b b' : Nat}, renN n0 top pi b = some b' → (E.ren n0 top pi).ρ b = E.ρ b' := by
    intro b b' hb; simp [Env.ren, hb]
  have numU : ∀ {b b' : Nat}, renN n0 top pi b = some b' → E.U b' → (E.ren n0 top pi).U b := by
    intro b b' hb hu
    obtain ⟨r, hr⟩ := U_iff.1 hu
    exact U_iff.2 ⟨r, (num hb).trans hr⟩
  induction h with
  | bool b => intro x hx ht; have e := ren_inv hx; simp only at e; subst e; exact .bool b
  | int k n => intro x hx ht; have e := ren_inv hx; simp only at e; subst e; exact .int k n
  | str s => intro x hx ht; have e := ren_inv hx; simp only at e; subst e; exact .str s
  | nilptr => intro x hx ht; have e := ren_inv hx; simp only at e; subst e; exact .nilptr
  | nilfn => intro x hx ht; have e := ren_inv hx; simp only at e; subst e; exact .nilfn
  | ptr b off ad hb hv =>
    intro x hx ht
    obtain ⟨b', rfl, hg⟩ := ren_inv hx
    exact .ptr b' off ad (numU hg hb) fun r hr => hv r ((num hg).symm.trans hr)
  | rop cells off r base vs hI hc hvv _ =>
    intro x hx ht
    have e := ren_inv hx; simp only at e; subst e
    exact ht E _ _ _ (.rop cells off r base vs hI hc hvv)
  | slice sz b off len cap ad cap' hb hv hl hc =>
    intro x hx ht
    obtain ⟨b', rfl, hg⟩ := ren_inv hx
    exact .slice sz b' off len cap ad cap' (numU hg hb) (fun r hr => hv r ((num hg).symm.trans hr)) hl hc
  | ro sz xs cap a cap' r o vs h1 h2 h3 h4 h5 h6 _ =>
    intro x hx ht
    have e := ren_inv hx; simp only at e; subst e
    exact ht E _ _ _ (.ro sz xs cap a cap' r o vs h1 h2 h3 h4 h5 h6)
  | fn f first captured fs cs h1 h2 _ _ ih1 ih2 =>
    intro x hx ht
    obtain ⟨a, b, rfl, hg1, hg2⟩ := ren_inv hx
    obtain ⟨l1, g1⟩ := renL_get hg1
    obtain ⟨l2, g2⟩ := renL_get hg2
    refine .fn f a b fs cs (by rw [h1, l1]) (by rw [h2, l2]) (fun i x v hi hv => ?_) (fun i x v hi hv => ?_)
    · obtain ⟨y, hy, hxy⟩ := g1 i x hi
      exact ih1 i y v hy hv hxy (tidyL_get ht.1 i x hi)
    · obtain ⟨y, hy, hxy⟩ := g2 i x hi
      exact ih2 i y v hy hv hxy (tidyL_get ht.2 i x hi)
  | agg cs vs h1 _ ih =>
    intro x hx ht
    obtain ⟨l, rfl, hg⟩ := ren_inv hx
    obtain ⟨l1, g1⟩ := renL_get hg
    refine .agg l vs (by rw [h1, l1]) fun i x v hi hv => ?_
    obtain ⟨y, hy, hxy⟩ := g1 i x hi
    exact ih i y v hy hv hxy (tidyL_get ht i x hi)
  | tup cs vs h1 _ ih =>
    intro x hx ht
    obtain ⟨l, rfl, hg⟩ := ren_inv hx
    obtain ⟨l1, g1⟩ := renL_get hg
    refine .tup l vs (by rw [h1, l1]) fun i x v hi hv => ?_
    obtain ⟨y, hy, hxy⟩ := g1 i x hi
    exact ih i y v hy hv hxy (tidyL_get ht i x hi)

section
variable {P : Program}

def swapped (pi : List (Nat × Nat)) : Prop := ∀ b b' c, lookR pi b = some c → lookR pi b' = some c → b = b'

theorem renN_in {n0 top : Nat} {pi : List (Nat × Nat)} {b : Nat} (h : n0 ≤ b ∧ b < top) : renN n0 top pi b = lookR pi b := by
  unfold renN
  have : (Nat.ble n0 b && Nat.blt b top) = true := by simpa using h
  rw [this]

theorem renN_out {n0 top : Nat} {pi : List (Nat × Nat)} {b : Nat} (h : ¬ (n0 ≤ b ∧ b < top)) : renN n0 top pi b = some b := by
  unfold renN
  have : (Nat.ble n0 b && Nat.blt b top) = false := by
    cases hh : (Nat.ble n0 b && Nat.blt b top) with
    | false => rfl
    | true => exact absurd (by simpa using hh) h
  rw [this]

theorem renN_inj {n0 top : Nat} {pi : List (Nat × Nat)} (hi : swapped pi) (hr : ∀ b c, lookR pi b = some c → n0 ≤ c ∧ c < top) {b b' c : Nat} (h : renN n0 top pi b = some c) (h' : renN n0 top pi b' = some c) : b = b' := by
  by_cases h1 : n0 ≤ b ∧ b < top <;> by_cases h2 : n0 ≤ b' ∧ b' < top
  · rw [renN_in h1] at h; rw [renN_in h2] at h'; exact hi b b' c h h'
  · rw [renN_in h1] at h; rw [renN_out h2] at h'
    cases h'
    exact absurd (hr b _ h) h2
  · rw [renN_out h1] at h; rw [renN_in h2] at h'
    cases h
    exact absurd (hr b' _ h') h1
  · rw [renN_out h1] at h; rw [renN_out h2] at h'
    cases h; cases h'; rfl

/-- what is kept of a state, under new numbers -/
structure Cut (n0 top : Nat) (pi : List (Nat × Nat)) (cs cs' : CS) : Prop where
  inj : swapped pi
  into : ∀ b c, lookR pi b = some c → (n0 ≤ c ∧ c < top) ∧ b < cs.n
  heap : ∀ b blk, hget cs.H b = some blk → b < cs.n ∧ TidyL blk ∧ ∃ b' blk', renN n0 top pi b = some b' ∧ hget cs'.H b' = some blk' ∧ renL (renN n0 top pi) blk = some blk'
  tmps : ∀ t x, tget cs.tm t = some x → x.Tidy ∧ ∃ y, tget cs'.tm t = some y ∧ x.ren (renN n0 top pi) = some y
  n0 : n0 ≤ cs.n

theorem goes_cut {f : FuncId} {N n0 top : Nat} {pi : List (Nat × Nat)} {todo : List Item} {cs cs' : CS} {Q : CV → CHeap → Prop} (hc : Cut n0 top pi cs cs') (h : Goes P f N n0 top todo cs Q) : Goes P f N n0 top todo cs' Q := by
  intro E0 E a b callers h1 h2 h3 h4 h5 h6 h7
  have num : ∀ {b b' : Nat}, renN n0 top pi b = some b' → (E.ren n0 top pi).ρ b = E.ρ b' := by
    intro b b' hb; simp [Env.ren, hb]
  have hinto : ∀ b c, lookR pi b = some c → n0 ≤ c ∧ c < top := fun b c hb => (hc.into b c hb).1
  have out : ∀ b, ¬ (n0 ≤ b ∧ b < top) → renN n0 top pi b = some b := fun b hb => renN_out hb
  have old : ∀ b, E0.U b → ¬ (n0 ≤ b ∧ b < top) := fun b hb hr => h3 b hr.1 hr.2 hb
  have some_of : ∀ {b r}, (E.ren n0 top pi).ρ b = some r → ∃ b', renN n0 top pi b = some b' ∧ E.ρ b' = some r := by
    intro b r hb
    simp only [Env.ren, Option.bind_eq_some_iff] at hb
    exact hb
  have hex : Ex E0 (E.ren n0 top pi) := by
    refine ⟨fun b r hr => ?_, fun b hu hl => ?_, h4.I, h4.sz, h4.grow, fun r hr hn => ?_, h4.newI, h4.io⟩
    · rw [num (out b (old b (U_iff.2 ⟨r, hr⟩)))]; exact h4.fwd b r hr
    · obtain ⟨b', hb', hl⟩ := hl
      rw [out b (old b hu)] at hb'
      cases hb'
      exact h4.L b hu hl
    · obtain ⟨a1, a2⟩ := h4.out r hr hn
      refine ⟨a1, fun b hl hb => ?_⟩
      obtain ⟨b', hb', hl⟩ := hl
      rw [num hb'] at hb
      exact a2 b' hl hb
  have hub : UB E0 (E.ren n0 top pi) n0 top := by
    intro k hk
    by_cases hr : n0 ≤ k ∧ k < top
    · exact .inr hr
    · obtain ⟨r, hr'⟩ := U_iff.1 hk
      rw [num (out k hr)] at hr'
      exact h5 k (U_iff.2 ⟨r, hr'⟩)
  have hbase : Base (E.ren n0 top pi) := by
    have hB := h6.heap.base
    refine ⟨fun b b' r l l' hb hb' => ?_, fun b r l hb => ?_, hB.Ilt⟩
    · obtain ⟨c, hc1, l⟩ := l
      obtain ⟨c', hc2, l'⟩ := l'
      rw [num hc1] at hb
      rw [num hc2] at hb'
      have := hB.inj c c' r l l' hb hb'
      subst this
      exact renN_inj hc.inj hinto hc1 hc2
    · obtain ⟨c, hc1, l⟩ := l
      rw [num hc1] at hb
      exact hB.lt c r l hb
  have hrel : Rel N (E.ren n0 top pi) cs a := by
    refine ⟨hbase.hr fun b blk hb => ?_, fun b blk hb => (hc.heap b blk hb).1, fun t x hx => ?_, h6.size, h6.defers⟩
    · obtain ⟨_, ht, b', blk', hb', hg, hr⟩ := hc.heap b blk hb
      obtain ⟨r, hr1, c, el, lo, hi, hcc, hf, hs, hx⟩ := h6.heap.get b' blk' hg
      obtain ⟨l1, l2⟩ := renL_get hr
      refine ⟨⟨b', hb', h6.heap.live b' blk' hg⟩, r, (num hb').trans hr1, c, el, lo, hi, hcc, hf, by omega, fun j x v hj hv => ?_⟩
      obtain ⟨y, hy, hxy⟩ := l2 j x hj
      exact vr_ren (hx j y v hy hv) hxy (tidyL_get ht j x hj)
    · obtain ⟨ht, y, hy, hxy⟩ := hc.tmps t x hx
      exact vr_ren (h6.tmps t y hy) hxy ht
  have hfr : Fr (E.ren n0 top pi) cs.n top := by
    intro k k1 k2 hk
    obtain ⟨r, hr⟩ := U_iff.1 hk
    obtain ⟨b', hb', _⟩ := some_of hr
    rw [renN_in ⟨Nat.le_trans hc.n0 k1, k2⟩] at hb'
    have := (hc.into k b' hb').2
    omega
  exact h E0 (E.ren n0 top pi) a b callers h1 h2 h3 hex hub hrel hfr

end
end Go.Cn
