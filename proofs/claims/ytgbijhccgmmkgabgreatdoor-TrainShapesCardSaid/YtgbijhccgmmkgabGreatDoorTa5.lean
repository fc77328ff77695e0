/- Fused symbols, walks, canonical symbols: what the document computes. -/
import Derived.Test.YtgbijhccgmmkgabGreatDoorTf13m6
import Derived.Test.YtgbijhccgmmkgabGreatDoorTa4l
set_option linter.unusedVariables false
noncomputable section
open Classical
namespace Go.Cn

/-! ### changes in one place -/
def setO (L : List ua0) (i o : Int) : List ua0 := L.set i.toNat ⟨(ati L i).Exp, (ati L i).Dim, (ati L i).Sign, (ati L i).Odd, o⟩
def setSg (L : List ua0) (i s : Int) : List ua0 := L.set i.toNat ⟨(ati L i).Exp, (ati L i).Dim, s, (ati L i).Odd, (ati L i).Oddity⟩
theorem uf7 (L : List ua0) (i o : Int) : (setO L i o).length = L.length := by unfold setO; simp
theorem setSg_len (L : List ua0) (i o : Int) : (setSg L i o).length = L.length := by unfold setSg; simp
theorem ati_set_ne {L : List ua0} {i j : Int} {c : ua0} (h : i.toNat ≠ j.toNat) : ati (L.set i.toNat c) j = ati L j := by
  unfold ati
  rw [List.getD_eq_getElem?_getD, List.getElem?_set_ne h, ← List.getD_eq_getElem?_getD]
def zeroS (L : List ua0) : List Int → List ua0
  | [] => L
  | i :: r => zeroS (setO L i 0) r
theorem zeroS_len : ∀ (p : List Int) (L : List ua0), (zeroS L p).length = L.length
  | [], L => rfl
  | i :: r, L => by show (zeroS (setO L i 0) r).length = _; rw [zeroS_len r, uf7]
def fuseF (L0 out : List ua0) : List (List Int) → List ua0
  | [] => out
  | p :: r => fuseF L0 (setO (zeroS out p) (p.getD 0 0) (totS L0 p)) r
theorem fuseF_len (L0 : List ua0) : ∀ (P : List (List Int)) (out : List ua0), (fuseF L0 out P).length = out.length
  | [], out => rfl
  | p :: r, out => by show (fuseF L0 _ r).length = _; rw [fuseF_len L0 r, uf7, zeroS_len]
def fuS (L : List ua0) : List ua0 := fuseF L L (partsS L)
theorem fuS_len (L : List ua0) : (fuS L).length = L.length := fuseF_len _ _ _

open F19 in
theorem fuse_in (k : Nat) (x : Int) (A : List ua0) (y z : Int) (a : List Int) (P : List (List Int)) (u v : Int) (p : List Int) (N : Nat) (hp : p.length ≤ 1000) (hin : inR N p) : ∀ (r : List Int) (j n : Nat) (out : List ua0), r.length < j → p.drop n = r → n ≤ p.length → out.length = N →
    l1b k j x A y z out a P u v p (p.length : Int) (n : Int) = some (.x1 x A y z (zeroS out r) a P u v) := by
  intro r
  induction r with
  | nil =>
    intro j n out hj hr hn ho
    obtain ⟨j, rfl⟩ : ∃ i, j = i + 1 := ⟨j - 1, by simp at hj; omega⟩
    have := uf4 hr hn
    show l1b_b k (l1 k j) (l1b k j) _ _ _ _ _ _ _ _ _ _ _ _ = _
    unfold l1b_b; rw [if_neg (by omega)]; rfl
  | cons b r ih =>
    intro j n out hj hr hn ho
    obtain ⟨j, rfl⟩ : ∃ i, j = i + 1 := ⟨j - 1, by simp at hj; omega⟩
    obtain ⟨g1, g2, g3, g4⟩ := ue3 hr
    simp only [List.length_cons] at hj
    have hb := hin b (List.mem_of_getElem? g4)
    show l1b_b k (l1 k j) (l1b k j) _ _ _ _ _ _ _ _ _ _ _ _ = _
    unfold l1b_b
    rw [if_pos (by omega), g2, Option.bind_some, ud5 hb.1 (by omega), Option.bind_some, uc4 (by omega)]
    exact ih j (n + 1) (setO out b 0) (by omega) g3 (by omega) (by rw [uf7]; exact ho)

open F19 in
theorem fuse_loop (k : Nat) (x : Int) (A : List ua0) (y z : Int) (P : List (List Int)) (hk : 1001 < k) (hP : P.length ≤ 1000) (hin : ∀ p ∈ P, p ≠ [] ∧ inR A.length p ∧ p.length ≤ 1000) : ∀ (r : List (List Int)) (j n : Nat) (out : List ua0), r.length < j → P.drop n = r → n ≤ P.length → out.length = A.length →
    l0b k j x A y z out P (P.length : Int) (n : Int) = some (.x1 y z (fuseF A out r)) := by
  intro r
  induction r with
  | nil =>
    intro j n out hj hr hn ho
    obtain ⟨j, rfl⟩ : ∃ i, j = i + 1 := ⟨j - 1, by simp at hj; omega⟩
    have := uf4 hr hn
    show l0b_b k (l0 k j) (l0b k j) _ _ _ _ _ _ _ _ = _
    unfold l0b_b; rw [if_neg (by omega)]; rfl
  | cons b r ih =>
    intro j n out hj hr hn ho
    obtain ⟨j, rfl⟩ : ∃ i, j = i + 1 := ⟨j - 1, by simp at hj; omega⟩
    obtain ⟨g1, g2, g3, g4⟩ := ue3 hr
    simp only [List.length_cons] at hj
    obtain ⟨hb0, hb1, hb2⟩ := hin b (List.mem_of_getElem? g4)
    show l0b_b k (l0 k j) (l0b k j) _ _ _ _ _ _ _ _ = _
    unfold l0b_b
    have key := fuse_in k x A y z b P (P.length : Int) (n : Int) b A.length hb2 hb1 b k 0 out (by omega) rfl (by omega) ho
    have e0 : ((0 : Nat) : Int) = 0 := rfl
    rw [e0] at key
    rw [if_pos (by omega), g2, Option.bind_some, key]
    show F19.c5 k (l0 k j) (l0b k j) x A y z (zeroS out b) b P (P.length : Int) (n : Int) = _
    unfold F19.c5
    cases b with
    | nil => exact absurd rfl hb0
    | cons i b =>
      have hi := hb1 i (by simp)
      rw [show elt (i :: b) 0 = some i from rfl, Option.bind_some, total_val k A (i :: b) hb2 hb1 (by omega), Option.bind_some, ud5 hi.1 (by rw [zeroS_len, ho]; exact hi.2), Option.bind_some, uc4 (by omega)]
      exact ih j (n + 1) (setO (zeroS out (i :: b)) i (totS A (i :: b))) (by omega) g3 (by omega) (by rw [uf7, zeroS_len]; exact ho)

theorem copied_val (k : Nat) (p : Int) (L : List ua0) (h1 : 1 ≤ L.length) (h2 : L.length ≤ 1000) : F39 k p L = some (.s1 p L) := by
  unfold F39 F39.b
  rw [if_neg (by omega), if_pos (by omega)]
  rfl

theorem fuse_val (k : Nat) (hk : 1100 ≤ k) (p : Int) (L : List ua0) (hL : L.length ≤ 900) : F19 k p L = some (if p = 2 ∧ raw2 L then (p, fuS L, true) else (0, [], false)) := by
  unfold F19 F19.b
  rw [valid2_val k p L (by omega) (by omega), Option.bind_some]
  by_cases h : p = 2 ∧ raw2 L
  case neg => rw [if_neg (by simpa using h), if_neg h]
  have h8 := ui2 h.2.1
  rw [if_pos (by simpa using h), if_pos h, copied_val k p L h8.1 (by omega), Option.bind_some]
  show F19.c1 k p L 0 p L = _
  unfold F19.c1
  obtain ⟨q1, q2⟩ := uh4 L
  rw [parts_val k L (by omega) (by omega), Option.bind_some]
  have key := fuse_loop k p L 0 p (partsS L) (by omega) (by omega) (fun a ha => ⟨(q2 a ha).1, (q2 a ha).2.1, by have := (q2 a ha).2.2; omega⟩) (partsS L) k 0 L (by omega) rfl (by omega) rfl
  have e0 : ((0 : Nat) : Int) = 0 := rfl
  rw [e0] at key
  rw [key]
  rfl

/-! ### walks -/
def add4 (L : List ua0) (i : Int) : List ua0 := setO L i (Int.tmod (IntKind.wrap .i64 ((ati L i).Oddity + 4)) 8)
theorem add4_len (L : List ua0) (i : Int) : (add4 L i).length = L.length := uf7 _ _ _
def stS (L : List ua0) (i : Int) : List ua0 :=
  let L2 := setSg (setSg L i (IntKind.wrap .i64 (0 - (ati L i).Sign))) (i - 1) (IntKind.wrap .i64 (0 - (ati L (i - 1)).Sign))
  let p := ptS (partsS L) (i - 1)
  let q := ptS (partsS L) i
  let L3 := if p ≠ [] then add4 L2 (p.getD 0 0) else L2
  if q ≠ [] then (if p = [] then add4 L3 (q.getD 0 0) else if p.getD 0 0 = q.getD 0 0 then L3 else add4 L3 (q.getD 0 0)) else L3
theorem stS_len (L : List ua0) (i : Int) : (stS L i).length = L.length := by
  unfold stS
  dsimp only
  repeat' split
  all_goals simp [add4_len, setSg_len]

theorem step_c2 (k : Nat) (x z : Int) (L : List ua0) (p q : List Int) (hq : inR L.length q) : F47.c2 k x z L p q = some (z, if q ≠ [] then (if p = [] then add4 L (q.getD 0 0) else if p.getD 0 0 = q.getD 0 0 then L else add4 L (q.getD 0 0)) else L) := by
  unfold F47.c2
  cases q with
  | nil => rw [if_neg (by simp), if_neg (by simp)]
  | cons b q =>
    have hb := hq b (by simp)
    rw [if_pos (by simp only [List.length_cons]; omega), if_pos (show b :: q ≠ [] by simp)]
    cases p with
    | nil =>
      rw [if_pos (by simp), if_pos rfl, show elt (b :: q) 0 = some b from rfl, Option.bind_some, ud5 hb.1 hb.2]
      rfl
    | cons a p =>
      rw [if_neg (by simp only [List.length_cons]; omega), if_neg (by simp), show elt (a :: p) 0 = some a from rfl, Option.bind_some, show elt (b :: q) 0 = some b from rfl, Option.bind_some]
      show (if a = b then _ else _) = some (z, if a = b then _ else _)
      by_cases h : a = b
      · rw [if_pos h, if_pos h]
      · rw [if_neg h, if_neg h, ud5 hb.1 hb.2]
        rfl

theorem step_val (k : Nat) (p : Int) (L : List ua0) (i : Int) (hL : L.length ≤ 900) (hk : L.length + 1 < k) (h1 : 1 ≤ i) (h2 : i < (L.length : Int)) : F47 k p L i = some (p, stS L i) := by
  unfold F47 F47.b
  rw [copied_val k p L (by omega) (by omega), Option.bind_some]
  show F47.c1 k p L 0 p L i = _
  unfold F47.c1
  have hw : IntKind.wrap .i64 (i - 1) = i - 1 := ud0 (by omega) (by omega)
  obtain ⟨s, hs⟩ : ∃ s, s = IntKind.wrap .i64 (0 - (ati L i).Sign) := ⟨_, rfl⟩
  rw [hw, ud5 (by omega) h2, Option.bind_some, ud5 (by omega) (by omega), Option.bind_some]
  have e1 : List.set L i.toNat (ua0.mk (ati L i).Exp (ati L i).Dim (IntKind.wrap .i64 (0 - (ati L i).Sign)) (ati L i).Odd (ati L i).Oddity) = setSg L i s := by rw [hs]; rfl
  have e2 : ati (setSg L i s) (i - 1) = ati L (i - 1) := ati_set_ne (by omega)
  rw [e1, ud5 (by omega) (by rw [setSg_len]; omega), Option.bind_some, e2]
  obtain ⟨s', hs'⟩ : ∃ s', s' = IntKind.wrap .i64 (0 - (ati L (i - 1)).Sign) := ⟨_, rfl⟩
  have e3 : List.set (setSg L i s) (i - 1).toNat (ua0.mk (ati L (i - 1)).Exp (ati L (i - 1)).Dim (IntKind.wrap .i64 (0 - (ati L (i - 1)).Sign)) (ati L (i - 1)).Odd (ati L (i - 1)).Oddity) = setSg (setSg L i s) (i - 1) s' := by
    rw [hs']; show _ = List.set (setSg L i s) _ ⟨(ati (setSg L i s) (i - 1)).Exp, _, _, (ati (setSg L i s) (i - 1)).Odd, _⟩; rw [e2]
  rw [e3, up2 k L (i - 1) hL hk, Option.bind_some, up2 k L i hL hk, Option.bind_some]
  obtain ⟨p1, p2⟩ := ptS_ok L (i - 1)
  obtain ⟨q1, q2⟩ := ptS_ok L i
  obtain ⟨L2, hL2⟩ : ∃ L2, L2 = setSg (setSg L i s) (i - 1) s' := ⟨_, rfl⟩
  have hl2 : L2.length = L.length := by rw [hL2, setSg_len, setSg_len]
  have hst : stS L i = (let p := ptS (partsS L) (i - 1); let q := ptS (partsS L) i; let L3 := if p ≠ [] then add4 L2 (p.getD 0 0) else L2; if q ≠ [] then (if p = [] then add4 L3 (q.getD 0 0) else if p.getD 0 0 = q.getD 0 0 then L3 else add4 L3 (q.getD 0 0)) else L3) := by
    rw [hL2, hs, hs']; rfl
  rw [← hL2, hst]
  dsimp only
  cases hp : ptS (partsS L) (i - 1) with
  | nil =>
    rw [if_neg (by simp), step_c2 k 0 p L2 [] _ (by rw [hl2]; exact q1)]
    simp
  | cons a r =>
    rw [hp] at p1
    have ha := p1 a (by simp)
    rw [if_pos (by simp only [List.length_cons]; omega), show elt (a :: r) 0 = some a from rfl, Option.bind_some, ud5 ha.1 ha.2, Option.bind_some, ud5 ha.1 (by rw [hl2]; exact ha.2), Option.bind_some]
    have e4 : List.set L2 a.toNat (ua0.mk (ati L2 a).Exp (ati L2 a).Dim (ati L2 a).Sign (ati L2 a).Odd (Int.tmod (IntKind.wrap .i64 ((ati L2 a).Oddity + 4)) 8)) = add4 L2 a := rfl
    rw [e4, step_c2 k 0 p (add4 L2 a) (a :: r) _ (by rw [add4_len, hl2]; exact q1)]
    simp

/-- walks from index i down -/
def cnF : Nat → List ua0 → List ua0
  | 0, L => L
  | i + 1, L => if (ati L ((i + 1 : Nat) : Int)).Sign = -1 ∧ lkS L ((i + 1 : Nat) : Int) = true then cnF i (stS L ((i + 1 : Nat) : Int)) else cnF i L
theorem cnF_len : ∀ (i : Nat) (L : List ua0), (cnF i L).length = L.length
  | 0, L => rfl
  | i + 1, L => by
    show (if _ then _ else _ : List ua0).length = _
    split
    · rw [cnF_len i, stS_len]
    · rw [cnF_len i]

open F13 in
theorem can_loop (k : Nat) (x p : Int) (N : Nat) (hN : N ≤ 900) (hk : N + 1 < k) : ∀ (i j : Nat) (L : List ua0), i < j → L.length = N → i < N → l0 k j x p L (i : Int) = some (x, p, cnF i L) := by
  intro i
  induction i with
  | zero =>
    intro j L hj hL hi
    obtain ⟨j, rfl⟩ : ∃ i, j = i + 1 := ⟨j - 1, by omega⟩
    show l0_b k (l0 k j) _ _ _ _ = _
    unfold l0_b; rw [if_neg (by omega)]; rfl
  | succ i ih =>
    intro j L hj hL hi
    obtain ⟨j, rfl⟩ : ∃ i, j = i + 1 := ⟨j - 1, by omega⟩
    show l0_b k (l0 k j) _ _ _ _ = _
    unfold l0_b
    rw [if_pos (by omega), ud5 (by omega) (by omega), Option.bind_some, wrap_pred (by omega)]
    by_cases h1 : (ati L ((i + 1 : Nat) : Int)).Sign = -1
    · rw [if_pos h1, linked_val k L _ (by omega) (by omega) (by omega) (by omega), Option.bind_some]
      by_cases h2 : lkS L ((i + 1 : Nat) : Int) = true
      · rw [if_pos h2, step_val k p L _ (by omega) (by omega) (by omega) (by omega), Option.bind_some]
        dsimp only
        rw [ih j (stS L ((i + 1 : Nat) : Int)) (by omega) (by rw [stS_len]; exact hL) (by omega)]
        show _ = some (x, p, if _ then _ else _)
        rw [if_pos ⟨h1, h2⟩]
      · rw [if_neg h2, ih j L (by omega) hL (by omega)]
        show _ = some (x, p, if _ then _ else _)
        rw [if_neg (fun h => h2 h.2)]
    · rw [if_neg h1, ih j L (by omega) hL (by omega)]
      show _ = some (x, p, if _ then _ else _)
      rw [if_neg (fun h => h1 h.1)]

def canS (L : List ua0) : List ua0 := cnF (L.length - 1) (fuS L)
theorem canS_len (L : List ua0) : (canS L).length = L.length := by unfold canS; rw [cnF_len, fuS_len]

theorem can_val (k : Nat) (hk : 1100 ≤ k) (p : Int) (L : List ua0) (hL : L.length ≤ 900) : F13 k p L = some (if p = 2 ∧ raw2 L then (p, canS L, true) else (0, [], false)) := by
  unfold F13 F13.b
  rw [fuse_val k hk p L hL, Option.bind_some]
  by_cases h : p = 2 ∧ raw2 L
  case neg => rw [if_neg h, if_neg (by simp), if_neg h]
  have h8 := ui2 h.2.1
  rw [if_pos h, if_pos rfl, if_pos h]
  dsimp only
  obtain ⟨n, hn⟩ : ∃ n, L.length = n + 1 := ⟨L.length - 1, by omega⟩
  have hw : IntKind.wrap .i64 (((fuS L).length : Int) - 1) = (n : Int) := by rw [fuS_len, hn]; exact wrap_pred (by omega)
  rw [hw, can_loop k 0 p L.length (by omega) (by omega) n k (fuS L) (by omega) (fuS_len L) (by omega)]
  show F13.c0 k 0 p _ = _
  unfold F13.c0 canS
  rw [hn]
  rfl

/-! ### any symbol that is made, and a bent one -/
theorem any_some (k : Nat) (hk : 1100 ≤ k) (pr : Int) (D : List A5u8) (hp : okI .u8 pr) (hD : D.length ≤ 100) (hok : ∀ a ∈ D, um3 a) : ∃ q o, F53 k pr D 8 = some (q, o) ∧ o.length ≤ 8 := by
  have hloc : ∃ q o, F55 k pr D 8 = some (q, o) ∧ o.length ≤ 8 := by
    obtain ⟨q, o, h, _, ho, _⟩ := local_valA k 8 (by decide) (by decide) pr D hp hD hok (by omega)
    exact ⟨q, o, h, (ui2 ho).2.1⟩
  obtain ⟨r, hr, hraw, _⟩ := raw_val k 8 (by decide) (by decide) pr D hD hok (by omega)
  have hr8 := (ui2 hraw.1).2.1
  have c1 : ∀ (v2 v4 : Int) (v5 : Bool), ∃ q o, F53.c1 k pr D v2 8 v4 v5 = some (q, o) ∧ o.length ≤ 8 := by
    intro v2 v4 v5
    unfold F53.c1
    cases v5 with
    | true => rw [if_pos rfl, hr]; exact ⟨2, r, rfl, hr8⟩
    | false =>
      rw [if_neg (by decide)]
      by_cases h5 : v4 = 5
      · rw [if_pos h5, hr, Option.bind_some, fuse_val k hk 2 r (by omega), if_pos ⟨rfl, hraw⟩]; exact ⟨2, fuS r, rfl, by rw [fuS_len]; exact hr8⟩
      · rw [if_neg h5, hr, Option.bind_some, can_val k hk 2 r (by omega), if_pos ⟨rfl, hraw⟩]; exact ⟨2, canS r, rfl, by rw [canS_len]; exact hr8⟩
  have c0 : ∀ (v2 v4 : Int) (v5 : Bool), ∃ q o, F53.c0 k pr D v2 8 v4 v5 = some (q, o) ∧ o.length ≤ 8 := by
    intro v2 v4 v5
    unfold F53.c0
    cases v5 with
    | true =>
      obtain ⟨q, o, h, ho⟩ := hloc
      rw [if_pos rfl, h]; exact ⟨q, o, rfl, ho⟩
    | false =>
      rw [if_neg (by decide)]
      by_cases h3 : v4 = 3
      · rw [if_pos h3]; exact c1 v2 v4 true
      · rw [if_neg h3]; exact c1 v2 v4 _
  unfold F53 F53.b
  by_cases h0 : Int.tmod pr 8 = 0
  · rw [if_pos h0]; exact c0 _ _ _
  rw [if_neg h0]
  by_cases h1 : Int.tmod pr 8 = 1
  · rw [if_pos h1]; exact c0 _ _ _
  rw [if_neg h1]; exact c0 _ _ _

theorem bent_some (k : Nat) (p : Int) (L : List ua0) (a f n : Int) (hL : L.length ≤ 1000) (ha : okI .u8 a) : ∃ q o, F49 k p L a f n = some (q, o) ∧ o.length ≤ L.length := by
  unfold F49 F49.b
  by_cases h0 : L.length = 0
  · rw [if_pos h0]; exact ⟨p, [], rfl, by simp⟩
  have hu := u8sym ha
  have wa : IntKind.wrap .i64 a = a := ud0 (by omega) (by omega)
  have hm : Int.tmod a (L.length : Int) = a % (L.length : Int) := Int.tmod_eq_emod_of_nonneg hu.1
  have g0 := Int.emod_nonneg a (show (L.length : Int) ≠ 0 by omega)
  have g1 := Int.emod_lt_of_pos a (show 0 < (L.length : Int) by omega)
  rw [if_neg h0, if_pos (by omega), if_neg (by omega), if_pos (by omega), wa, hm, ud5 g0 g1, Option.bind_some]
  by_cases f0 : Int.tmod f 8 = 0
  · rw [if_pos f0]; exact ⟨_, _, rfl, by simp⟩
  rw [if_neg f0]
  by_cases f1 : Int.tmod f 8 = 1
  · rw [if_pos f1]; exact ⟨_, _, rfl, by simp⟩
  rw [if_neg f1]
  by_cases f2 : Int.tmod f 8 = 2
  · rw [if_pos f2]; exact ⟨_, _, rfl, by simp⟩
  rw [if_neg f2]
  by_cases f3 : Int.tmod f 8 = 3
  · rw [if_pos f3]; exact ⟨_, _, rfl, by simp⟩
  rw [if_neg f3]
  by_cases f4 : Int.tmod f 8 = 4
  · rw [if_pos f4]; exact ⟨_, _, rfl, by simp⟩
  rw [if_neg f4]
  by_cases f5 : Int.tmod f 8 = 5
  · rw [if_pos f5]; exact ⟨_, _, rfl, by simp⟩
  rw [if_neg f5]
  by_cases f6 : Int.tmod f 8 = 6
  · rw [if_pos f6]; exact ⟨_, _, rfl, Nat.le_refl _⟩
  rw [if_neg f6]; exact ⟨_, _, rfl, Nat.le_refl _⟩

end Go.Cn
