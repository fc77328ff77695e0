/- The canonical calculus: forgetting and renumbering, reckoned. -/
import Derived.Test.YteokapmkfoogaaaGreatDoorCk1
set_option linter.unusedVariables false
set_option linter.unusedSimpArgs false
noncomputable section
namespace Go.Cn

mutual
/-- what must be known of what is read-only inside, then K -/
def CV.clnK : CV → Prop → Prop
  | .agg l, K => clnLK l K
  | .tup l, K => clnLK l K
  | .fn _ a b, K => clnLK a (clnLK b K)
  | .rop c off, K => Clean (.rop c off) ∧ K
  | .ro sz xs cap, K => Clean (.ro sz xs cap) ∧ K
  | _, K => K
def clnLK : List CV → Prop → Prop
  | [], K => K
  | x :: xs, K => CV.clnK x (clnLK xs K)
end

mutual
theorem clnK_out : ∀ (x : CV) {K : Prop}, x.clnK K → x.Tidy ∧ K
  | .agg l, K, h => by simp only [CV.clnK] at h; exact clnLK_out l h
  | .tup l, K, h => by simp only [CV.clnK] at h; exact clnLK_out l h
  | .fn _ a b, K, h => by
    simp only [CV.clnK] at h
    obtain ⟨h1, h2⟩ := clnLK_out a h
    obtain ⟨h3, h4⟩ := clnLK_out b h2
    exact ⟨⟨h1, h3⟩, h4⟩
  | .rop c off, K, h => h
  | .ro sz xs cap, K, h => h
  | .bool _, K, h => ⟨trivial, h⟩
  | .int _ _, K, h => ⟨trivial, h⟩
  | .str _, K, h => ⟨trivial, h⟩
  | .ptr _ _, K, h => ⟨trivial, h⟩
  | .nilptr, K, h => ⟨trivial, h⟩
  | .slice _ _ _ _ _, K, h => ⟨trivial, h⟩
  | .nilfn, K, h => ⟨trivial, h⟩
theorem clnLK_out : ∀ (xs : List CV) {K : Prop}, clnLK xs K → TidyL xs ∧ K
  | [], K, h => ⟨trivial, h⟩
  | x :: xs, K, h => by
    simp only [clnLK] at h
    obtain ⟨h1, h2⟩ := clnK_out x h
    obtain ⟨h3, h4⟩ := clnLK_out xs h2
    exact ⟨⟨h1, h3⟩, h4⟩
end

mutual
theorem ren_back {g g' : Nat → Option Nat} (hg : ∀ b c, g b = some c → g' c = some b) : ∀ (x y : CV), x.ren g = some y → y.ren g' = some x
  | .ptr b off, y, h => by
    simp only [CV.ren] at h; split at h <;> simp only [Option.some.injEq, reduceCtorEq] at h
    next c hc => subst h; simp only [CV.ren, hg b c hc]
  | .slice sz b off len cap, y, h => by
    simp only [CV.ren] at h; split at h <;> simp only [Option.some.injEq, reduceCtorEq] at h
    next c hc => subst h; simp only [CV.ren, hg b c hc]
  | .agg l, y, h => by
    simp only [CV.ren] at h; split at h <;> simp only [Option.some.injEq, reduceCtorEq] at h
    next l' hl => subst h; simp only [CV.ren, renL_back hg l l' hl]
  | .tup l, y, h => by
    simp only [CV.ren] at h; split at h <;> simp only [Option.some.injEq, reduceCtorEq] at h
    next l' hl => subst h; simp only [CV.ren, renL_back hg l l' hl]
  | .fn f a b, y, h => by
    simp only [CV.ren] at h; split at h <;> simp only [Option.some.injEq, reduceCtorEq] at h
    next a' b' ha hb => subst h; simp only [CV.ren, renL_back hg a a' ha, renL_back hg b b' hb]
  | .bool _, y, h => by simp only [CV.ren, Option.some.injEq] at h; subst h; rfl
  | .int _ _, y, h => by simp only [CV.ren, Option.some.injEq] at h; subst h; rfl
  | .str _, y, h => by simp only [CV.ren, Option.some.injEq] at h; subst h; rfl
  | .nilptr, y, h => by simp only [CV.ren, Option.some.injEq] at h; subst h; rfl
  | .nilfn, y, h => by simp only [CV.ren, Option.some.injEq] at h; subst h; rfl
  | .rop _ _, y, h => by simp only [CV.ren, Option.some.injEq] at h; subst h; rfl
  | .ro _ _ _, y, h => by simp only [CV.ren, Option.some.injEq] at h; subst h; rfl
theorem renL_back {g g' : Nat → Option Nat} (hg : ∀ b c, g b = some c → g' c = some b) : ∀ (xs ys : List CV), renL g xs = some ys → renL g' ys = some xs
  | [], ys, h => by simp only [renL, Option.some.injEq] at h; subst h; rfl
  | x :: xs, ys, h => by
    simp only [renL] at h; split at h <;> simp only [Option.some.injEq, reduceCtorEq] at h
    next y ys' h1 h2 => subst h; simp only [renL, ren_back hg x y h1, renL_back hg xs ys' h2]
end

/-- the temporaries that are kept, under the new numbers -/
def cutTm (g : Nat → Option Nat) (tm : CTm) : List Nat → Option CTm
  | [] => some []
  | t :: r => match tget tm t with
    | some x => match CV.ren g x with
      | some y => match cutTm g tm r with
        | some l => some ((t, y) :: l)
        | none => none
      | none => none
    | none => none

/-- cells that speak of no block by number, whatever else they say -/
def Still (blk : List CV) : Prop := (∀ g, renL g blk = some blk) ∧ TidyL blk

/-- this row of cells, under the new numbers, is that one -/
def RenIs (pi : List (Nat × Nat)) (blk blk' : List CV) : Prop := renL (lookR pi) blk = some blk' ∧ TidyL blk'

/-- the blocks that are kept (old number, new number), then K; 'fl': those that are left as they are; 'mx': those that are told -/
def cutHK (ps : List (Nat × Nat)) (H : CHeap) (fl : List Nat) (mx : CHeap) : List (Nat × Nat) → (CHeap → Prop) → Prop
  | [], K => K []
  | (b, c) :: r, K => match hget H b with
    | some blk => match hget mx b with
      | some blk' => RenIs ps blk blk' ∧ cutHK ps H fl mx r (fun l => K ((c, blk') :: l))
      | none => match fl.any (Nat.beq b) with
        | true => Still blk ∧ cutHK ps H fl mx r (fun l => K ((c, blk) :: l))
        | false => match renL (lookR ps) blk with
          | some blk' => clnLK blk' (cutHK ps H fl mx r (fun l => K ((c, blk') :: l)))
          | none => False
    | none => False

def noDup : List Nat → Bool
  | [] => true
  | x :: r => match r.any (Nat.beq x) with | true => false | false => noDup r

def pairOk (n0 top n : Nat) (p : Nat × Nat) : Bool :=
  match Nat.blt p.2 n && Nat.blt p.1 top with
  | true => match Nat.blt p.1 n0 with | true => Nat.beq p.1 p.2 | false => Nat.ble n0 p.2
  | false => false

def pairsOk (n0 top n : Nat) : List (Nat × Nat) → Bool
  | [] => true
  | p :: r => match pairOk n0 top n p with | true => pairsOk n0 top n r | false => false

def fsts : List (Nat × Nat) → List Nat
  | [] => []
  | p :: r => p.1 :: fsts r
def snds : List (Nat × Nat) → List Nat
  | [] => []
  | p :: r => p.2 :: snds r

def cutOk (n0 top : Nat) (pi : List (Nat × Nat)) (n m : Nat) : Bool :=
  match Nat.ble m top && (Nat.ble n0 n && Nat.ble n top) with
  | true => match pairsOk n0 top n pi with
    | true => match noDup (fsts pi) with | true => noDup (snds pi) | false => false
    | false => false
  | false => false

def clnT : CTm → Prop → Prop
  | [], K => K
  | (_, x) :: r, K => CV.clnK x (clnT r K)
theorem clnT_out : ∀ {tm : CTm} {K : Prop}, clnT tm K → (∀ t x, tget tm t = some x → x.Tidy) ∧ K
  | [], K, h => ⟨fun t x hx => by simp [tget_nil] at hx, h⟩
  | (u, z) :: r, K, h => by
    simp only [clnT] at h
    obtain ⟨h1, h2⟩ := clnK_out z h
    obtain ⟨h3, h4⟩ := clnT_out h2
    refine ⟨fun t x hx => ?_, h4⟩
    rw [tget_cons] at hx
    split at hx
    · cases hx; exact h1
    · exact h3 t x hx

theorem cutTm_get {g : Nat → Option Nat} {tm : CTm} : ∀ {ts : List Nat} {tm' : CTm}, cutTm g tm ts = some tm' → ∀ t y, tget tm' t = some y → ∃ x, tget tm t = some x ∧ x.ren g = some y
  | [], tm', h, t, y, hy => by simp only [cutTm, Option.some.injEq] at h; subst h; simp [tget_nil] at hy
  | u :: r, tm', h, t, y, hy => by
    simp only [cutTm] at h
    split at h <;> try (simp at h; done)
    next x hx =>
    split at h <;> try (simp at h; done)
    next z hz =>
    split at h <;> simp only [Option.some.injEq, reduceCtorEq] at h
    next l hl =>
    subst h
    rw [tget_cons] at hy
    split at hy
    · next e => subst e; cases hy; exact ⟨x, hx, hz⟩
    · exact cutTm_get hl t y hy

theorem cutHK_out {ps : List (Nat × Nat)} {g' : Nat → Option Nat} (hg : ∀ b c, lookR ps b = some c → g' c = some b) {H : CHeap} {fl : List Nat} {mx : CHeap} : ∀ {pi : List (Nat × Nat)} {K : CHeap → Prop}, cutHK ps H fl mx pi K →
    ∃ l, K l ∧ ∀ c blk', hget l c = some blk' → TidyL blk' ∧ ∃ b blk, (b, c) ∈ pi ∧ hget H b = some blk ∧ renL g' blk' = some blk
  | [], K, h => ⟨[], h, fun c blk' hc => by simp [hget_nil] at hc⟩
  | (b, c) :: r, K, h => by
    simp only [cutHK] at h
    split at h <;> try exact h.elim
    next blk hb =>
    split at h
    · next blk1 hm =>
      obtain ⟨⟨hr, ht⟩, h⟩ := h
      obtain ⟨l, hK, hl⟩ := cutHK_out hg h
      refine ⟨_, hK, fun c' blk' hc => ?_⟩
      rw [hget_cons] at hc
      split at hc
      · next e => subst e; cases hc; exact ⟨ht, b, blk, by simp, hb, renL_back hg _ _ hr⟩
      · obtain ⟨h1, b', blk2, h2, h3, h4⟩ := hl c' blk' hc
        exact ⟨h1, b', blk2, by simp [h2], h3, h4⟩
    · split at h
      · obtain ⟨hs, h⟩ := h
        obtain ⟨l, hK, hl⟩ := cutHK_out hg h
        refine ⟨_, hK, fun c' blk' hc => ?_⟩
        rw [hget_cons] at hc
        split at hc
        · next e => subst e; cases hc; exact ⟨hs.2, b, blk, by simp, hb, hs.1 g'⟩
        · obtain ⟨h1, b', blk2, h2, h3, h4⟩ := hl c' blk' hc
          exact ⟨h1, b', blk2, by simp [h2], h3, h4⟩
      · split at h <;> try exact h.elim
        next blk1 hr =>
        obtain ⟨ht, h⟩ := clnLK_out _ h
        obtain ⟨l, hK, hl⟩ := cutHK_out hg h
        refine ⟨_, hK, fun c' blk' hc => ?_⟩
        rw [hget_cons] at hc
        split at hc
        · next e => subst e; cases hc; exact ⟨ht, b, blk, by simp, hb, renL_back hg _ _ hr⟩
        · obtain ⟨h1, b', blk2, h2, h3, h4⟩ := hl c' blk' hc
          exact ⟨h1, b', blk2, by simp [h2], h3, h4⟩

theorem noDup_spec : ∀ {l : List Nat}, noDup l = true → l.Nodup
  | [], _ => List.nodup_nil
  | x :: r, h => by
    simp only [noDup] at h
    split at h
    · simp at h
    · next hh =>
      rw [List.nodup_cons]
      refine ⟨fun hx => ?_, noDup_spec h⟩
      have : r.any (Nat.beq x) = true := List.any_eq_true.2 ⟨x, hx, Nat.beq_refl x⟩
      rw [hh] at this; simp at this

theorem fsts_eq : ∀ (pi : List (Nat × Nat)), fsts pi = pi.map (·.1)
  | [] => rfl
  | p :: r => by simp [fsts, fsts_eq r]
theorem snds_eq : ∀ (pi : List (Nat × Nat)), snds pi = pi.map (·.2)
  | [] => rfl
  | p :: r => by simp [snds, snds_eq r]

theorem pairsOk_spec {n0 top n : Nat} : ∀ {pi : List (Nat × Nat)}, pairsOk n0 top n pi = true → ∀ b c, (b, c) ∈ pi → c < n ∧ b < top ∧ (b < n0 → b = c) ∧ (n0 ≤ b → n0 ≤ c)
  | [], _, b, c, h => by simp at h
  | p :: r, hp, b, c, h => by
    simp only [pairsOk] at hp
    split at hp <;> try (simp at hp; done)
    next hk =>
    rcases List.mem_cons.1 h with rfl | h
    · unfold pairOk at hk
      split at hk <;> try (simp at hk; done)
      next hh =>
      simp only [Bool.and_eq_true, Nat.blt_eq] at hh
      split at hk
      · next h2 =>
        have h2 : b < n0 := by simpa [Nat.blt_eq] using h2
        exact ⟨hh.1, hh.2, fun _ => Nat.eq_of_beq_eq_true hk, fun h3 => by omega⟩
      · next h2 =>
        have h2 : ¬ b < n0 := by
          intro h3
          have : Nat.blt b n0 = true := by rw [Nat.blt_eq]; exact h3
          have h2 : Nat.blt b n0 = false := h2
          rw [h2] at this; simp at this
        exact ⟨hh.1, hh.2, fun h3 => by omega, fun _ => Nat.le_of_ble_eq_true hk⟩
    · exact pairsOk_spec hp b c h

theorem lookR_mem' : ∀ {pi : List (Nat × Nat)} {b c : Nat}, lookR pi b = some c → (b, c) ∈ pi
  | [], b, c, h => by simp [lookR] at h
  | (b', c') :: r, b, c, h => by
    simp only [lookR] at h
    split at h
    · next e => have e := Nat.eq_of_beq_eq_true e; subst e; cases h; simp
    · exact List.mem_cons_of_mem _ (lookR_mem' h)

theorem lookR_of_mem : ∀ {pi : List (Nat × Nat)} {b c : Nat}, (pi.map (·.1)).Nodup → (b, c) ∈ pi → lookR pi b = some c
  | [], b, c, _, h => by simp at h
  | (b', c') :: r, b, c, hn, h => by
    simp only [List.map_cons, List.nodup_cons] at hn
    simp only [lookR]
    rcases List.mem_cons.1 h with h | h
    · cases h; simp
    · have : ¬ b' = b := by
        rintro rfl
        exact hn.1 (List.mem_map.2 ⟨(b', c), h, rfl⟩)
      have h0 : Nat.beq b' b = false := by
        cases hh : Nat.beq b' b with
        | false => rfl
        | true => exact absurd (Nat.eq_of_beq_eq_true hh) this
      rw [h0]
      exact lookR_of_mem hn.2 h

/-- the state cut, then K -/
def cutK (n0 top : Nat) (ts : List Nat) (pi : List (Nat × Nat)) (fl : List Nat) (mx : CHeap) (n : Nat) (cs : CS) (K : CS → Prop) : Prop :=
  match cutOk n0 top pi n cs.n with
  | true => match cutTm (lookR pi) cs.tm ts with
    | some tm => clnT tm (cutHK pi cs.H fl mx pi fun H => K ⟨tm, H, n⟩)
    | none => False
  | false => False

theorem cut_cs {n0 top : Nat} {ts : List Nat} {pi : List (Nat × Nat)} {fl : List Nat} {mx : CHeap} {n : Nat} {cs : CS} {K : CS → Prop} (h : cutK n0 top ts pi fl mx n cs K) :
    ∃ cs', K cs' ∧ cs.n ≤ top ∧ n0 ≤ cs'.n ∧ cs'.n ≤ top ∧ Cut n0 top ((pi.filter fun p => Nat.ble n0 p.1).map fun p => (p.2, p.1)) cs' cs := by
  unfold cutK at h
  split at h <;> try exact h.elim
  next hok =>
  split at h <;> try exact h.elim
  next tm htm =>
  obtain ⟨hT, h⟩ := clnT_out h
  unfold cutOk at hok
  split at hok <;> try (simp at hok; done)
  next hk =>
  simp only [Bool.and_eq_true] at hk
  split at hok <;> try (simp at hok; done)
  next hp =>
  split at hok <;> try (simp at hok; done)
  next hd1 =>
  have hd1 := noDup_spec hd1
  have hd2 := noDup_spec hok
  rw [fsts_eq] at hd1
  rw [snds_eq] at hd2
  have hp := pairsOk_spec hp
  have k1 := Nat.le_of_ble_eq_true hk.1
  have k2 := Nat.le_of_ble_eq_true hk.2.1
  have k3 := Nat.le_of_ble_eq_true hk.2.2
  have hmem : ∀ b c, (b, c) ∈ (pi.filter fun p => Nat.ble n0 p.1).map (fun p => (p.2, p.1)) → (c, b) ∈ pi ∧ n0 ≤ c := by
    intro b c hm
    obtain ⟨⟨c', b'⟩, h1, h2⟩ := List.mem_map.1 hm
    obtain ⟨h3, h4⟩ := List.mem_filter.1 h1
    cases h2
    exact ⟨h3, Nat.le_of_ble_eq_true h4⟩
  have hnd : (((pi.filter fun p => Nat.ble n0 p.1).map fun p => (p.2, p.1)).map (·.1)).Nodup := by
    rw [List.map_map]
    refine List.Nodup.sublist ?_ hd2
    exact (List.filter_sublist (p := fun p : Nat × Nat => Nat.ble n0 p.1)).map _
  have hback : ∀ b c, lookR pi b = some c → renN n0 top ((pi.filter fun p => Nat.ble n0 p.1).map fun p => (p.2, p.1)) c = some b := by
    intro b c hb
    have hm := lookR_mem' hb
    obtain ⟨g1, g2, g3, g4⟩ := hp b c hm
    by_cases hlt : b < n0
    · have e := g3 hlt
      subst e
      exact renN_out (by omega)
    · rw [renN_in ⟨g4 (by omega), by omega⟩]
      refine lookR_of_mem hnd (List.mem_map.2 ⟨(b, c), List.mem_filter.2 ⟨hm, ?_⟩, rfl⟩)
      exact Nat.ble_eq_true_of_le (by omega)
  obtain ⟨H, hK, hH⟩ := cutHK_out hback h
  refine ⟨⟨tm, H, n⟩, hK, k1, k2, k3, ?_, fun b c hb => ?_, fun c blk' hc => ?_, fun t y hy => ?_, k2⟩
  · intro b b' c hb hb'
    obtain ⟨m1, _⟩ := hmem b c (lookR_mem' hb)
    obtain ⟨m2, _⟩ := hmem b' c (lookR_mem' hb')
    have e1 := lookR_of_mem hd1 m1
    have e2 := lookR_of_mem hd1 m2
    rw [e1] at e2
    exact Option.some.inj e2
  · obtain ⟨m1, m2⟩ := hmem b c (lookR_mem' hb)
    obtain ⟨g1, g2, _, _⟩ := hp c b m1
    exact ⟨⟨m2, g2⟩, g1⟩
  · obtain ⟨m0, b, blk, m1, m2, m3⟩ := hH c blk' hc
    obtain ⟨g1, _, _, _⟩ := hp b c m1
    exact ⟨g1, m0, b, blk, hback b c (lookR_of_mem hd1 m1), m2, m3⟩
  · obtain ⟨x, m1, m2⟩ := cutTm_get htm t y hy
    exact ⟨hT t y hy, x, m1, ren_back hback _ _ m2⟩

end Go.Cn
