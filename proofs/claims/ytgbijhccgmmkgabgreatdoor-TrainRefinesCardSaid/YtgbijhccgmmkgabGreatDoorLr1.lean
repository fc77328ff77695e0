/- The least oddities: what the program and the document compute. -/
import Derived.Test.YtgbijhccgmmkgabGreatDoorTf13m0
import Derived.Test.YtgbijhccgmmkgabGreatDoorTf13m6
import Derived.Test.YtgbijhccgmmkgabGreatDoorTx1
import Derived.Test.YtgbijhccgmmkgabGreatDoorTe1
import Derived.Test.YtgbijhccgmmkgabGreatDoorTd1
set_option linter.unusedVariables false
noncomputable section
open Classical
namespace Go.Cn

def wo (L : List ua0) (i o : Int) : ua0 := ⟨(ati L i).Exp, (ati L i).Dim, (ati L i).Sign, (ati L i).Odd, o⟩
def rfGo (f : List ua0 → Int → Bool × List ua0) (i t : Int) : Nat → Int → List ua0 → Bool × List ua0
  | 0, _, L => (false, L)
  | m + 1, o, L => if legalS (wo L i o) then (if (f (setO L i o) ((t - o + 8) % 8)).1 = true then (true, (f (setO L i o) ((t - o + 8) % 8)).2) else rfGo f i t m (o + 1) (f (setO L i o) ((t - o + 8) % 8)).2) else rfGo f i t m (o + 1) (setO L i o)
def rfS : List Int → List ua0 → Int → Bool × List ua0
  | [], L, t => (t == 0, L)
  | i :: c, L, t => rfGo (rfS c) i t 8 0 L
theorem rfGo_len {f : List ua0 → Int → Bool × List ua0} (hf : ∀ L t, (f L t).2.length = L.length) (i t : Int) : ∀ (m : Nat) (o : Int) (L : List ua0), (rfGo f i t m o L).2.length = L.length
  | 0, _, _ => rfl
  | m + 1, o, L => by
    unfold rfGo
    split
    · split
      · rw [hf, ud3]
      · rw [rfGo_len hf i t m, hf, ud3]
    · rw [rfGo_len hf i t m, ud3]
theorem rfS_len : ∀ (c : List Int) (L : List ua0) (t : Int), (rfS c L t).2.length = L.length
  | [], L, t => rfl
  | i :: c, L, t => rfGo_len (rfS_len c) i t 8 0 L

theorem spread_kr (p : Int) (c : List Int) (L : List ua0) (t : Int) (j : Nat) : (F49.kr (j + 1)).r p L c t = (F49.b (F49.kr j) p L c t).bind fun o => if o.2.length = L.length then some o else none := by
  rw [F49.kr]
theorem spread_n (j : Nat) : (F49.kr (j + 1)).n = j := by rw [F49.kr]
open F49 in
theorem spread_val (p : Int) : ∀ (c : List Int) (L : List ua0) (t : Int) (j : Nat), c.length + 12 ≤ j → L.length ≤ 900 → c.length ≤ 1000 → inR L.length c → 0 ≤ t → t ≤ 7 → (kr j).r p L c t = some (rfS c L t) := by
  intro c
  induction c with
  | nil =>
    intro L t j hj hL hc hin h0 h7
    obtain ⟨j, rfl⟩ : ∃ i, j = i + 1 := ⟨j - 1, by omega⟩
    rw [spread_kr]
    unfold b
    rw [if_pos (show ((([] : List Int).length : Nat) : Int) = 0 from rfl), Option.bind_some, if_pos rfl]
    rfl
  | cons i c ih =>
    intro L t j hj hL hc hin h0 h7
    simp only [List.length_cons] at hj hc
    obtain ⟨j, rfl⟩ : ∃ i, j = i + 2 := ⟨j - 2, by omega⟩
    have hi := hin i (by simp)
    have loop : ∀ (m q : Nat) (o : Int) (M : List ua0), o + m = 8 → 0 ≤ o → m < q → M.length = L.length →
        l0 (kr (j + 1)) q M p (i :: c) t o = if (rfGo (rfS c) i t m o M).1 = true then some (.ret (true, (rfGo (rfS c) i t m o M).2)) else some (.x0 (rfGo (rfS c) i t m o M).2) := by
      intro m
      induction m with
      | zero =>
        intro q o M ho h0 hq hM
        obtain ⟨q, rfl⟩ : ∃ i, q = i + 1 := ⟨q - 1, by omega⟩
        show l0_b (kr (j + 1)) (l0 (kr (j + 1)) q) _ _ _ _ _ = _
        unfold l0_b
        rw [if_neg (by omega)]
        rfl
      | succ m ihm =>
        intro q o M ho h0' hq hM
        obtain ⟨q, rfl⟩ : ∃ i, q = i + 1 := ⟨q - 1, by omega⟩
        have hw : IntKind.wrap .i64 (o + 1) = o + 1 := uc5 (by omega) (by omega)
        have hw1 : IntKind.wrap .i64 (t - o) = t - o := uc5 (by omega) (by omega)
        have hw2 : IntKind.wrap .i64 (t - o + 8) = t - o + 8 := uc5 (by omega) (by omega)
        have hw3 : Int.tmod (t - o + 8) 8 = (t - o + 8) % 8 := Int.tmod_eq_emod_of_nonneg (by omega)
        have hlen := rfS_len c (setO M i o) ((t - o + 8) % 8)
        have key := ih (setO M i o) ((t - o + 8) % 8) (j + 1) (by omega) (by rw [ud3]; omega) (by omega) (by rw [ud3, hM]; exact fun x hx => hin x (by simp [hx])) (by omega) (by omega)
        have lg := legalP_val (kr (j + 1)).n (wo M i o)
        unfold wo at lg
        show l0_b (kr (j + 1)) (l0 (kr (j + 1)) q) _ _ _ _ _ = _
        unfold l0_b rfGo
        rw [if_pos (by omega), show elt (i :: c) 0 = some i from rfl, Option.bind_some, ui4 hi.1 (by omega), Option.bind_some, lg, Option.bind_some, hw, hw1, hw2, hw3]
        have es : List.set M i.toNat (ua0.mk (ati M i).Exp (ati M i).Dim (ati M i).Sign (ati M i).Odd o) = setO M i o := rfl
        have ed : List.drop (1 : Int).toNat (i :: c) = c := rfl
        rw [es, ed, key, Option.bind_some, kp_eq hlen]
        by_cases hl : legalS (wo M i o)
        · have hl' : decide (legalS (ua0.mk (ati M i).Exp (ati M i).Dim (ati M i).Sign (ati M i).Odd o)) = true := decide_eq_true hl
          have hg : (0 : Int) ≤ 1 ∧ (1 : Int) ≤ ((i :: c).length : Int) := ⟨by omega, by simp only [List.length_cons]; omega⟩
          rw [if_pos hl', if_pos hg, if_pos hl]
          by_cases hr : (rfS c (setO M i o) ((t - o + 8) % 8)).1 = true
          · rw [if_pos hr, if_pos hr]; rfl
          · rw [if_neg hr, if_neg hr]
            exact ihm q (o + 1) _ (by omega) (by omega) (by omega) (by rw [hlen, ud3, hM])
        · have hl' : ¬ decide (legalS (ua0.mk (ati M i).Exp (ati M i).Dim (ati M i).Sign (ati M i).Odd o)) = true := fun h => hl (of_decide_eq_true h)
          rw [if_neg hl', if_neg hl]
          exact ihm q (o + 1) _ (by omega) (by omega) (by omega) (by rw [ud3, hM])
    rw [spread_kr]
    have hb : b (kr (j + 1)) p L (i :: c) t = some (rfS (i :: c) L t) := by
      unfold b
      have := loop 8 j 0 L (by omega) (by omega) (by omega) rfl
      rw [if_neg (by simp only [List.length_cons]; omega), spread_n j, this]
      show _ = some (rfGo (rfS c) i t 8 0 L)
      generalize rfGo (rfS c) i t 8 0 L = R
      obtain ⟨x, M⟩ := R
      cases x with
      | true => rfl
      | false => rfl
    rw [hb, Option.bind_some, if_pos (rfS_len (i :: c) L t)]

/-! ### all parts -/
def rfP (L0 : List ua0) : List (List Int) → List ua0 → Option (List ua0)
  | [], out => some out
  | p :: r, out => if (rfS p out (totS L0 p)).1 = true then rfP L0 r (rfS p out (totS L0 p)).2 else none
def refS (L : List ua0) : Option (List ua0) := rfP L (partsS L) L
def refV (p : Int) (L : List ua0) : Int × List ua0 × Bool := if p = 2 ∧ fusedS L then (match refS L with | some o => (p, o, true) | none => (0, [], false)) else (0, [], false)
theorem tot_range {L : List ua0} (h : fusedS L) {p : List Int} (hp : p ∈ partsS L) : 0 ≤ totS L p ∧ totS L p ≤ 7 := by
  obtain ⟨a, m, ep, hb⟩ := uh7 hp
  rw [tot_fused h hp, show p.getD 0 0 = (a : Int) by rw [ep, iv_head]]
  have := h.2.1 _ (uh2 (L := L) (i := (a : Int)) (by omega) (by omega))
  exact ⟨this.1, this.2.1⟩

open F31 in
theorem refP_loop (k : Nat) (hk : 1100 ≤ k) (p q x : Int) (L : List ua0) (hL : L.length ≤ 900) (hf : fusedS L) : ∀ (r : List (List Int)) (j n : Nat) (out : List ua0), r.length < j → (partsS L).drop n = r → n ≤ (partsS L).length → out.length = L.length →
    l0b k j p L x q out (partsS L) ((partsS L).length : Int) (n : Int) = match rfP L r out with | some o => some (.x1 x q o) | none => some (.ret (0, [], false)) := by
  obtain ⟨h1, h2⟩ := ue9 L
  intro r
  induction r with
  | nil =>
    intro j n out hj hr hn ho
    obtain ⟨j, rfl⟩ : ∃ i, j = i + 1 := ⟨j - 1, by simp at hj; omega⟩
    have := uh1 hr hn
    show l0b_b k (l0 k j) (l0b k j) _ _ _ _ _ _ _ _ = _
    unfold l0b_b; rw [if_neg (by omega)]; rfl
  | cons b r ih =>
    intro j n out hj hr hn ho
    obtain ⟨j, rfl⟩ : ∃ i, j = i + 1 := ⟨j - 1, by simp at hj; omega⟩
    obtain ⟨g1, g2, g3, g4⟩ := ue8 hr
    simp only [List.length_cons] at hj
    have hb := h2 b (List.mem_of_getElem? g4)
    have ht := tot_range hf (List.mem_of_getElem? g4)
    have hsp : F49 k q out b (totS L b) = some (rfS b out (totS L b)) := spread_val q b out _ k (by omega) (by omega) (by omega) (by rw [ho]; exact hb.2.1) ht.1 ht.2
    have hlen := rfS_len b out (totS L b)
    show l0b_b k (l0 k j) (l0b k j) _ _ _ _ _ _ _ _ = _
    unfold l0b_b rfP
    rw [if_pos (by omega), g2, Option.bind_some, totalP_val k p L b (by omega) hb.2.1 (by omega), Option.bind_some, hsp, Option.bind_some, kp_eq hlen, uc8 (by omega)]
    by_cases hr : (rfS b out (totS L b)).1 = true
    · rw [if_pos hr, if_pos hr]
      exact ih j (n + 1) _ (by omega) g3 (by omega) (by rw [hlen, ho])
    · rw [if_neg hr, if_neg hr]

theorem refP_val (k : Nat) (hk : 1100 ≤ k) (p : Int) (L : List ua0) (hL : L.length ≤ 900) : F31 k p L = some (refV p L) := by
  unfold F31 F31.b refV
  rw [fusedP_val k hk p L hL, Option.bind_some]
  by_cases h : p = 2 ∧ fusedS L
  case neg => rw [if_neg (by simpa using h), if_neg h]
  have h8 := uj2 h.2.1
  obtain ⟨h1, h2⟩ := ue9 L
  rw [if_pos (by simpa using h), if_pos h, copiedP_val k p L h8.1 (by omega), Option.bind_some]
  show F31.c1 k p L 0 p L = _
  unfold F31.c1
  have key := refP_loop k hk p p 0 L hL h.2 (partsS L) k 0 L (by omega) rfl (by omega) rfl
  have e0 : ((0 : Nat) : Int) = 0 := rfl
  rw [e0] at key
  rw [ug5 k p L (by omega) (by omega) (ord_exp h.2.1), Option.bind_some, key]
  show _ = some (match rfP L (partsS L) L with | some o => (p, o, true) | none => (0, [], false))
  cases rfP L (partsS L) L <;> rfl
end Go.Cn
