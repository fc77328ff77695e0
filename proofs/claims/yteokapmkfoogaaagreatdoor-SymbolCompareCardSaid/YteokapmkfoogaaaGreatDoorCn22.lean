/- The canonical calculus, part 22: a contract that is proved on data alone holds in every memory. -/
import Derived.Test.YteokapmkfoogaaaGreatDoorCn21
set_option linter.unusedVariables false
set_option linter.unusedSimpArgs false
noncomputable section
namespace Go.Cn

mutual
/-- numbers pushed up by n; what is read-only is left as it is -/
def CV.sh (n : Nat) : CV → CV
  | .ptr b off => .ptr (b + n) off
  | .slice sz b off len cap => .slice sz (b + n) off len cap
  | .agg l => .agg (shL n l)
  | .tup l => .tup (shL n l)
  | .fn f a b => .fn f (shL n a) (shL n b)
  | x => x
def shL (n : Nat) : List CV → List CV
  | [] => []
  | x :: xs => CV.sh n x :: shL n xs
end

def shH (n : Nat) : CHeap → CHeap
  | [] => []
  | (b, blk) :: h => (b + n, shL n blk) :: shH n h

mutual
/-- refers to nothing that is read-only -/
def CV.Plain : CV → Prop
  | .agg l => PlainL l
  | .tup l => PlainL l
  | .fn _ a b => PlainL a ∧ PlainL b
  | .rop _ _ => False
  | .ro _ xs _ => xs = []
  | _ => True
def PlainL : List CV → Prop
  | [] => True
  | x :: xs => CV.Plain x ∧ PlainL xs
end

theorem shL_get {n : Nat} : ∀ {xs : List CV}, (shL n xs).length = xs.length ∧ ∀ (i : Nat), (shL n xs)[i]? = xs[i]?.map (CV.sh n)
  | [] => by simp [shL]
  | x :: xs => by
    obtain ⟨a1, a2⟩ := shL_get (n := n) (xs := xs)
    refine ⟨by simp [shL, a1], fun i => ?_⟩
    cases i with
    | zero => simp [shL]
    | succ i => simpa [shL] using a2 i

theorem plainL_get : ∀ {xs : List CV}, PlainL xs → ∀ (i : Nat) x, xs[i]? = some x → x.Plain
  | [], _, i, x, h => by simp at h
  | y :: xs, ht, i, x, h => by
    cases i with
    | zero => simp at h; subst h; exact ht.1
    | succ i => exact plainL_get ht.2 i x (by simpa using h)

theorem shH_get {n : Nat} : ∀ {H : CHeap} {b : Nat} {blk : List CV}, hget (shH n H) b = some blk → ∃ b0 blk0, b = b0 + n ∧ hget H b0 = some blk0 ∧ blk = shL n blk0
  | [], b, blk, h => by simp [shH, hget_nil] at h
  | (c, x) :: H, b, blk, h => by
    simp only [shH] at h
    rw [hget_cons] at h
    split at h
    · next e => exact ⟨c, x, e.symm, by rw [hget_cons, if_pos rfl], (Option.some.inj h).symm⟩
    · next e =>
      obtain ⟨b0, blk0, h1, h2, h3⟩ := shH_get h
      exact ⟨b0, blk0, h1, by rw [hget_cons, if_neg (fun e' => e (by omega))]; exact h2, h3⟩

/-- the world behind a call that ran on data alone, told from before it: Z: the blocks that were there were read-only meanwhile -/
def Env.thawed (E E1 : Env) (n t : Nat) (Z : Prop) : Env :=
  { ρ := fun b => if n ≤ b ∧ b < n + t then E1.ρ (b - n) else E.ρ b, L := fun b => if n ≤ b ∧ b < n + t then E1.L (b - n) else E.L b,
    I := fun r => E1.I r ∧ ¬ (Z ∧ ∃ b, E.L b ∧ E.ρ b = some r), w := E1.w }

theorem vr_sh {E E1 : Env} {n t : Nat} {Z : Prop} (hU : ∀ k, E1.U k → k < t) {x : CV} {v : Value} (h : VR E1 x v) : x.Tidy → (Z → x.Plain) → VR (E.thawed E1 n t Z) (x.sh n) v := by
  have num : ∀ {b : Nat}, E1.U b → (E.thawed E1 n t Z).ρ (b + n) = E1.ρ b := by
    intro b hb
    have := hU b hb
    simp only [Env.thawed]
    rw [if_pos (by omega), Nat.add_sub_cancel]
  have numU : ∀ {b : Nat}, E1.U b → (E.thawed E1 n t Z).U (b + n) := by
    intro b hb
    obtain ⟨r, hr⟩ := U_iff.1 hb
    exact U_iff.2 ⟨r, (num hb).trans hr⟩
  have lst : ∀ {xs : List CV} {vs : Array Value}, (∀ (i : Nat) x v, xs[i]? = some x → vs[i]? = some v → x.Tidy → (Z → x.Plain) → VR (E.thawed E1 n t Z) (x.sh n) v) → TidyL xs → (Z → PlainL xs) →
      ∀ (i : Nat) x v, (shL n xs)[i]? = some x → vs[i]? = some v → VR (E.thawed E1 n t Z) x v := by
    intro xs vs h ht hp i x v hx hv
    rw [shL_get.2 i] at hx
    cases hxi : xs[i]? with
    | none => rw [hxi] at hx; simp at hx
    | some y =>
      rw [hxi] at hx
      simp at hx
      subst hx
      exact h i y v hxi hv (tidyL_get ht i y hxi) (fun z => plainL_get (hp z) i y hxi)
  induction h with
  | bool b => intro ht hp; exact .bool b
  | int k n => intro ht hp; exact .int k n
  | str s => intro ht hp; exact .str s
  | nilptr => intro ht hp; exact .nilptr
  | nilfn => intro ht hp; exact .nilfn
  | ptr b off ad hb hv => intro ht hp; exact .ptr (b + n) off ad (numU hb) fun r hr => hv r ((num hb).symm.trans hr)
  | rop cells off r base vs hI hc hvv _ =>
    intro ht hp
    by_cases z : Z
    · exact (hp z).elim
    · have := ht E1 (E.thawed E1 n t Z).ρ (E.thawed E1 n t Z).L _ (.rop cells off r base vs hI hc hvv)
      exact this.le ⟨fun _ _ h => h, fun r hr => ⟨⟨hr, fun h => z h.1⟩, rfl⟩, fun _ => Nat.le_refl _⟩
  | slice sz b off len cap ad cap' hb hv hl hc => intro ht hp; exact .slice sz (b + n) off len cap ad cap' (numU hb) (fun r hr => hv r ((num hb).symm.trans hr)) hl hc
  | ro sz xs cap a cap' r o vs h1 h2 h3 h4 h5 h6 _ =>
    intro ht hp
    by_cases z : Z
    · have hnil : xs = [] := hp z
      subst hnil
      exact .ro sz [] cap a cap' r o vs h1 h2 (fun h => absurd rfl h) h4 (fun i j c x hi => by simp at hi) (fun i j c x hi => by simp at hi)
    · have := ht E1 (E.thawed E1 n t Z).ρ (E.thawed E1 n t Z).L _ (.ro sz xs cap a cap' r o vs h1 h2 h3 h4 h5 h6)
      exact this.le ⟨fun _ _ h => h, fun r hr => ⟨⟨hr, fun h => z h.1⟩, rfl⟩, fun _ => Nat.le_refl _⟩
  | fn f first captured fs cs h1 h2 _ _ ih1 ih2 =>
    intro ht hp
    exact .fn f _ _ fs cs (by rw [h1, shL_get.1]) (by rw [h2, shL_get.1]) (lst ih1 ht.1 fun z => (hp z).1) (lst ih2 ht.2 fun z => (hp z).2)
  | agg cs vs h1 _ ih => intro ht hp; exact .agg _ vs (by rw [h1, shL_get.1]) (lst ih ht hp)
  | tup cs vs h1 _ ih => intro ht hp; exact .tup _ vs (by rw [h1, shL_get.1]) (lst ih ht hp)

section
variable {P : Program}

/-- reads as, once all that lives is given up: with Z; without, what is no number's stays -/
def Reads (Z : Prop) (H : CHeap) (y x : CV) : Prop := ∀ (E : Env) (v : Value), HR E H → VR E y v → VR { ρ := fun _ => none, L := fun _ => False, I := fun r => E.I r ∨ (Z ∧ ∃ b, E.L b ∧ E.ρ b = some r), w := E.w } x v

theorem hc_frame {f : FuncId} {args args' : List CV} {t : Nat} {x : CV} {K0 : CHeap} (Z : Prop) (h : HC P f args' [] 0 t fun y K => y = x ∧ K = K0) (H : CHeap) (n : Nat) (hl : args'.length = args.length)
    (hr : ∀ (i : Nat) y y', args[i]? = some y → args'[i]? = some y' → Reads Z H y y') (ht : x.Tidy) (hp : Z → x.Plain) (htK : ∀ b blk, hget K0 b = some blk → TidyL blk ∧ (Z → PlainL blk)) :
    HC P f args H n (n + t) fun y K => y = x.sh n ∧ K = shH n K0 ++ H := by
  intro E vs hfr hky hH hv
  let E0 : Env := { ρ := fun _ => none, L := fun _ => False, I := fun r => E.I r ∨ (Z ∧ ∃ b, E.L b ∧ E.ρ b = some r), w := E.w }
  have hE0 : HR E0 [] := ⟨fun b blk hb => by simp [hget_nil] at hb, fun b blk hb => by simp [hget_nil] at hb, fun b b' r l => l.elim, fun b r l => l.elim, fun r hr => by
    rcases hr with hr | ⟨_, b, l, hb⟩
    · exact hH.Ilt r hr
    · exact (hH.lt b r l hb).2⟩
  have hv0 : VRs E0 args' vs := by
    refine ⟨by rw [hv.1, hl], fun i y' v hy' hv' => ?_⟩
    have hlt : i < args.length := by
      rcases Nat.lt_or_ge i args'.length with h' | h'
      · omega
      · rw [List.getElem?_eq_none h'] at hy'; simp at hy'
    exact hr i args[i] y' (List.getElem?_eq_getElem hlt) hy' E v hH (hv.2 i _ v (List.getElem?_eq_getElem hlt) hv')
  refine (h E0 vs (fun k _ _ hk => hk rfl) (fun b blk hb => by simp [hget_nil] at hb) hE0 hv0).mono ?_
  rintro e w' ⟨v, y, K, E1, rfl, rfl, hex, hh, hub, hvr, rfl, rfl⟩
  have hU : ∀ k, E1.U k → k < t := fun k hk => by
    rcases hub k hk with g | g
    · exact absurd rfl g
    · exact g.2
  have hout : ∀ r, r < E.w.heap.size → E1.w.heap[r]? = E.w.heap[r]? ∧ ∀ b, E1.L b → E1.ρ b ≠ some r := fun r hr => hex.out r hr (fun b l => l.elim)
  have far : ∀ b, E.U b → ¬ (n ≤ b ∧ b < n + t) := fun b hb hr => hfr b hr.1 hr.2 hb
  have hex' : Ex E (E.thawed E1 n t Z) := by
    refine ⟨fun b r hr => ?_, fun b hu hl => ?_, fun r hI => ⟨⟨(hex.I r (.inl hI)).1, ?_⟩, (hex.I r (.inl hI)).2⟩, hex.sz, hex.grow, fun r hr hn => ⟨(hout r hr).1, fun b hl hb => ?_⟩, fun r hI => ?_, hex.io⟩
    · simp only [Env.thawed]; rw [if_neg (far b (U_iff.2 ⟨r, hr⟩))]; exact hr
    · simp only [Env.thawed] at hl; rw [if_neg (far b hu)] at hl; exact hl
    · rintro ⟨_, b, l, hb⟩; exact (hH.lt b r l hb).1 hI
    · simp only [Env.thawed] at hl hb
      split at hl
      · next g => rw [if_pos g] at hb; exact (hout r hr).2 _ hl hb
      · next g => rw [if_neg g] at hb; exact hn b hl hb
    · obtain ⟨h1, h2⟩ := hI
      rcases hex.newI r h1 with g | g | ⟨b, l, _⟩
      · rcases g with g | g
        · exact .inl g
        · exact absurd g h2
      · exact .inr (.inl g)
      · exact l.elim
  have hbase : Base (E.thawed E1 n t Z) := by
    refine ⟨fun b b' r l l' hb hb' => ?_, fun b r l hb => ?_, fun r hI => hh.Ilt r hI.1⟩
    · simp only [Env.thawed] at l l' hb hb'
      split at l <;> split at l'
      · next g g' =>
        rw [if_pos g] at hb; rw [if_pos g'] at hb'
        have := hh.inj _ _ r l l' hb hb'
        omega
      · next g g' =>
        rw [if_pos g] at hb; rw [if_neg g'] at hb'
        exact absurd hb ((hout r (hH.lt b' r l' hb').2).2 _ l)
      · next g g' =>
        rw [if_neg g] at hb; rw [if_pos g'] at hb'
        exact absurd hb' ((hout r (hH.lt b r l hb).2).2 _ l')
      · next g g' =>
        rw [if_neg g] at hb; rw [if_neg g'] at hb'
        exact hH.inj b b' r l l' hb hb'
    · simp only [Env.thawed] at l hb
      split at l
      · next g =>
        rw [if_pos g] at hb
        obtain ⟨a1, a2⟩ := hh.lt _ r l hb
        exact ⟨fun hI => a1 hI.1, a2⟩
      · next g =>
        rw [if_neg g] at hb
        obtain ⟨a1, a2⟩ := hH.lt b r l hb
        refine ⟨fun hI => ?_, Nat.lt_of_lt_of_le a2 hex.grow⟩
        rcases hex.newI r hI.1 with g | g | ⟨c, lc, _⟩
        · rcases g with g | g
          · exact a1 g
          · exact hI.2 g
        · have : E0.w = E.w := rfl
          rw [this] at g; omega
        · exact lc.elim
  refine ⟨v, y.sh n, _, E.thawed E1 n t Z, rfl, rfl, hex', hbase.hr (fun b blk hb => ?_), fun k hk => ?_, vr_sh hU hvr ht hp, rfl, rfl⟩
  · rcases heap_mem_append hb with hb | hb
    · obtain ⟨b0, blk0, rfl, hg, rfl⟩ := shH_get hb
      have hb0 : b0 < t := by
        obtain ⟨r, hr, _⟩ := hh.get b0 blk0 hg
        exact hU b0 (U_iff.2 ⟨r, hr⟩)
      obtain ⟨r, hr1, c, el, lo, hi, hcc, hf, hs, hx⟩ := hh.get b0 blk0 hg
      have g : n ≤ b0 + n ∧ b0 + n < n + t := by omega
      refine ⟨?_, r, ?_, c, el, lo, hi, hcc, hf, by rw [shL_get.1]; exact hs, fun j y v hj hv => ?_⟩
      · simp only [Env.thawed]; rw [if_pos g, Nat.add_sub_cancel]; exact hh.live b0 blk0 hg
      · simp only [Env.thawed]; rw [if_pos g, Nat.add_sub_cancel]; exact hr1
      · rw [shL_get.2 j] at hj
        cases hxi : blk0[j]? with
        | none => rw [hxi] at hj; simp at hj
        | some y0 =>
          rw [hxi] at hj
          simp at hj
          subst hj
          obtain ⟨k1, k2⟩ := htK b0 blk0 hg
          exact vr_sh hU (hx j y0 v hxi hv) (tidyL_get k1 j y0 hxi) (fun z => plainL_get (k2 z) j y0 hxi)
    · have hl := hH.live b blk hb
      obtain ⟨r, hr1, c, el, lo, hi, hcc, hf, hs, hx⟩ := hH.get b blk hb
      have g := far b (U_iff.2 ⟨r, hr1⟩)
      refine ⟨?_, r, ?_, c, el, lo, hi, (hout r (hH.lt b r hl hr1).2).1.trans hcc, hf, hs, fun j y v hj hv => (hx j y v hj hv).mono hex'⟩
      · simp only [Env.thawed]; rw [if_neg g]; exact hl
      · simp only [Env.thawed]; rw [if_neg g]; exact hr1
  · by_cases g : n ≤ k ∧ k < n + t
    · exact .inr g
    · obtain ⟨r, hr⟩ := U_iff.1 hk
      simp only [Env.thawed] at hr
      rw [if_neg g] at hr
      exact .inl (U_iff.2 ⟨r, hr⟩)

end
end Go.Cn
