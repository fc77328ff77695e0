/- The plain law of SymbolScale: what the programs answer. -/
import Derived.Test.YtgmcadpldlinpaaGreatDoorQt5
set_option linter.unusedVariables false
noncomputable section
open Classical
namespace Go.Cn

theorem sym_exp {p : Int} {L : List Constituent} (h : symP p L) : ∀ c ∈ L, 0 ≤ c.Exp ∧ c.Exp ≤ 60 := fun c hc => by
  have := asc_bounds h.2.2.2.1 c hc
  exact ⟨by omega, this.2⟩

open Fsymbol_Scale in
theorem scaleP (k : Nat) (hk : 150 ≤ k) (p e : Int) (he : -9223372036854775808 ≤ e ∧ e ≤ 9223372036854775807) (L : List Constituent) :
    Fsymbol_Scale k p L e = some (if symP p L then (if fitS e L then (p, L.map (shift e), 0) else (0, [], 1)) else (0, [], 22)) := by
  unfold Fsymbol_Scale Fsymbol_Scale.b
  rw [validP_val k hk, Option.bind_some]
  by_cases hs : symP p L
  case neg => rw [if_neg (by simpa using hs), if_neg hs]
  rw [if_pos (by simpa using hs), if_pos hs]
  have hb := sym_exp hs
  obtain ⟨j, rfl⟩ : ∃ i, k = i + 1 := ⟨k - 1, by omega⟩
  have h8 := hs.2.2.1
  cases L with
  | nil => have := hs.2.1; simp at this
  | cons c r =>
    have hc := hb c (by simp)
    have h1 : l0 (j + 1) (j + 1) 0 p e (c :: r) ((c :: r).length : Int) 0 = l0_b (j + 1) (l0 (j + 1) j) (l0b (j + 1) j) 0 p e (c :: r) ((c :: r).length : Int) 0 := rfl
    rw [h1]
    unfold l0_b
    have w1 : IntKind.wrap .i64 (0 - c.Exp) = 0 - c.Exp := wrap_id (by omega) (by omega)
    have w2 : IntKind.wrap .i64 (60 - c.Exp) = 60 - c.Exp := wrap_id (by omega) (by omega)
    have hw2 : IntKind.wrap .i64 (0 + 1) = ((1 : Nat) : Int) := rfl
    rw [if_pos (by simp), show elt (c :: r) 0 = some c from rfl, Option.bind_some, w1, w2]
    by_cases e1 : e < 0 - c.Exp
    · rw [if_pos e1, if_neg (fun h => by have := h c (by simp); omega)]; rfl
    rw [if_neg e1]
    by_cases e2 : e > 60 - c.Exp
    · rw [if_pos e2, if_neg (fun h => by have := h c (by simp); omega)]; rfl
    have w3 : IntKind.wrap .i64 (c.Exp + e) = c.Exp + e := wrap_id (by omega) (by omega)
    have key := scP_loop (j + 1) 0 p e he (c :: r) h8 hb r j 1 [shift e c] (by simp at h8; omega) rfl (by simp) (by simp)
    rw [if_neg e2, w3, hw2]
    have key' : l0b (j + 1) j 0 p [Constituent.mk (c.Exp + e) c.Dim c.Sign c.Odd c.Oddity] e (c :: r) ((c :: r).length : Int) ((1 : Nat) : Int) = _ := key
    rw [key']
    have hiff : fitS e (c :: r) ↔ fitS e r := by
      constructor
      · intro h x hx; exact h x (by simp [hx])
      · intro h x hx
        rcases List.mem_cons.1 hx with rfl | hx
        · omega
        · exact h x hx
    by_cases hf : fitS e r
    · rw [if_pos hf, if_pos (hiff.2 hf)]; rfl
    · rw [if_neg hf, if_neg (fun h => hf (hiff.1 h))]; rfl

open Fquadformref26_Scale in
theorem scaleR (k : Nat) (hk : 200 ≤ k) (p e : Int) (L : List Constituent) (hL : L.length ≤ 40) :
    Fquadformref26_Scale k p L e = some (if symP p L then (if fitS e L then (p, L.map (shift e), 0) else (0, [], 1)) else (0, [], 22)) := by
  unfold Fquadformref26_Scale Fquadformref26_Scale.b
  rw [validR_val k p L (by omega) (by omega), Option.bind_some]
  by_cases hs : symP p L
  case neg => rw [if_neg (by simpa using hs), if_neg hs]
  rw [if_pos (by simpa using hs), if_pos hs]
  have hb := sym_exp hs
  have h8 := hs.2.2.1
  cases L with
  | nil => have := hs.2.1; simp at this
  | cons c r =>
    have hc := hb c (by simp)
    by_cases e1 : e < -60
    · rw [if_pos e1, if_neg (fun h => by have := h c (by simp); omega)]
    rw [if_neg e1]
    by_cases e2 : e > 60
    · rw [if_pos e2, if_neg (fun h => by have := h c (by simp); omega)]
    rw [if_neg e2]
    obtain ⟨j, rfl⟩ : ∃ i, k = i + 1 := ⟨k - 1, by omega⟩
    have h1 : l0 (j + 1) (j + 1) 0 p e (c :: r) ((c :: r).length : Int) 0 = l0_b (j + 1) (l0 (j + 1) j) (l0b (j + 1) j) 0 p e (c :: r) ((c :: r).length : Int) 0 := rfl
    rw [h1]
    unfold l0_b
    have w3 : IntKind.wrap .i64 (c.Exp + e) = c.Exp + e := wrap_id (by omega) (by omega)
    have hw2 : IntKind.wrap .i64 (0 + 1) = ((1 : Nat) : Int) := rfl
    rw [if_pos (by simp), show elt (c :: r) 0 = some c from rfl, Option.bind_some, w3, hw2]
    have key := scR_loop (j + 1) 0 p e (by omega) (c :: r) h8 hb r j 1 [shift e c] (by simp at h8; omega) rfl (by simp) (by simp)
    have key' : l0b (j + 1) j 0 p [Constituent.mk (c.Exp + e) c.Dim c.Sign c.Odd c.Oddity] e (c :: r) ((c :: r).length : Int) ((1 : Nat) : Int) = some (.x1 0 p ((c :: r).map (shift e))) := key
    rw [key']
    show Fquadformref26_Scale.c1 (j + 1) 0 p ((c :: r).map (shift e)) = _
    unfold Fquadformref26_Scale.c1
    rw [validR_val (j + 1) p ((c :: r).map (shift e)) (by simp at hL ⊢; omega) (by simp at hL ⊢; omega), Option.bind_some]
    by_cases hf : fitS e (c :: r)
    · rw [if_pos (by simpa using (sym_shift hs).2 hf), if_pos hf]
    · rw [if_neg (by simpa using fun h => hf ((sym_shift hs).1 h)), if_neg hf]

/-! ### Dual -/
theorem take_succ' {α : Type} (L : List α) (n : Nat) (h : n < L.length) : L.take (n + 1) = L.take n ++ [L[n]] := by
  rw [List.take_add_one, List.getElem?_eq_getElem h]; rfl

theorem fitD_snoc {e : Int} {M : List Constituent} {c : Constituent} : fitD e (M ++ [c]) ↔ fitD e M ∧ (0 ≤ e - c.Exp ∧ e - c.Exp ≤ 60) := by
  constructor
  · intro h; exact ⟨fun x hx => h x (by simp [hx]), h c (by simp)⟩
  · rintro ⟨h1, h2⟩ x hx
    rcases List.mem_append.1 hx with hx | hx
    · exact h1 x hx
    · simp at hx; subst hx; exact h2

open Fsymbol_Dual in
theorem duP_loop (k : Nat) (v0 z p e : Int) (he : -9223372036854775808 ≤ e ∧ e ≤ 9223372036854775807) (L : List Constituent) (hL : L.length ≤ 8) (hb : ∀ c ∈ L, 0 ≤ c.Exp ∧ c.Exp ≤ 60) : ∀ (n j : Nat) (out : List Constituent), n < j → n ≤ L.length → out.length ≤ 100 - n →
    Fsymbol_Dual.l0b k j v0 L z p out e ((n : Int) - 1) = if fitD e (L.take n) then some (.x1 z p (out ++ (L.take n).reverse.map (flip e))) else some (.ret (0, [], 1)) := by
  intro n
  induction n with
  | zero =>
    intro j out hj hn ho
    obtain ⟨j, rfl⟩ : ∃ i, j = i + 1 := ⟨j - 1, by omega⟩
    show l0b_b k (l0 k j) (l0b k j) _ _ _ _ _ _ _ = _
    unfold l0b_b
    rw [if_neg (by omega), if_pos (show fitD e (L.take 0) from fun c hc => absurd hc (by simp))]
    simp
  | succ n ih =>
    intro j out hj hn ho
    obtain ⟨j, rfl⟩ : ∃ i, j = i + 1 := ⟨j - 1, by omega⟩
    have hi : (((n + 1 : Nat) : Int) - 1) = (n : Int) := by omega
    have hw : IntKind.wrap .i64 ((n : Int) - 1) = (n : Int) - 1 := wrap_id (by omega) (by omega)
    have hc := hb L[n] (List.getElem_mem _)
    have w2 : IntKind.wrap .i64 (60 + L[n].Exp) = 60 + L[n].Exp := wrap_id (by omega) (by omega)
    show l0b_b k (l0 k j) (l0b k j) _ _ _ _ _ _ _ = _
    unfold l0b_b
    rw [hi, if_pos (by omega), elt_nat, List.getElem?_eq_getElem (by omega), Option.bind_some, w2, take_succ' L n (by omega)]
    by_cases e1 : e < L[n].Exp
    · rw [if_pos e1, if_neg (fun h => by have := (fitD_snoc.1 h).2; omega)]
    rw [if_neg e1]
    by_cases e2 : e > 60 + L[n].Exp
    · rw [if_pos e2, if_neg (fun h => by have := (fitD_snoc.1 h).2; omega)]
    have w3 : IntKind.wrap .i64 (e - L[n].Exp) = e - L[n].Exp := wrap_id (by omega) (by omega)
    rw [if_neg e2, if_pos (by omega), w3, hw, ih j _ (by omega) (by omega) (by simp; omega)]
    have hiff : fitD e (L.take n ++ [L[n]]) ↔ fitD e (L.take n) := ⟨fun h => (fitD_snoc.1 h).1, fun h => fitD_snoc.2 ⟨h, by omega, by omega⟩⟩
    simp only [hiff, List.reverse_append, List.reverse_cons, List.reverse_nil, List.nil_append, List.singleton_append, List.map_cons, List.append_assoc]
    rfl

open Fquadformref26_Dual in
theorem duR_loop (k : Nat) (v0 z p e : Int) (he : 0 ≤ e ∧ e ≤ 120) (L : List Constituent) (hL : L.length ≤ 8) (hb : ∀ c ∈ L, 0 ≤ c.Exp ∧ c.Exp ≤ 60) : ∀ (n j : Nat) (out : List Constituent), n < j → n ≤ L.length → out.length ≤ 100 - n →
    Fquadformref26_Dual.l0b k j v0 L z p out e ((n : Int) - 1) = some (.x1 z p (out ++ (L.take n).reverse.map (flip e))) := by
  intro n
  induction n with
  | zero =>
    intro j out hj hn ho
    obtain ⟨j, rfl⟩ : ∃ i, j = i + 1 := ⟨j - 1, by omega⟩
    show l0b_b k (l0 k j) (l0b k j) _ _ _ _ _ _ _ = _
    unfold l0b_b
    rw [if_neg (by omega)]
    simp
  | succ n ih =>
    intro j out hj hn ho
    obtain ⟨j, rfl⟩ : ∃ i, j = i + 1 := ⟨j - 1, by omega⟩
    have hi : (((n + 1 : Nat) : Int) - 1) = (n : Int) := by omega
    have hw : IntKind.wrap .i64 ((n : Int) - 1) = (n : Int) - 1 := wrap_id (by omega) (by omega)
    have hc := hb L[n] (List.getElem_mem _)
    show l0b_b k (l0 k j) (l0b k j) _ _ _ _ _ _ _ = _
    unfold l0b_b
    have w3 : IntKind.wrap .i64 (e - L[n].Exp) = e - L[n].Exp := wrap_id (by omega) (by omega)
    rw [hi, if_pos (by omega), elt_nat, List.getElem?_eq_getElem (by omega), Option.bind_some, take_succ' L n (by omega), if_pos (by omega), w3, hw, ih j _ (by omega) (by omega) (by simp; omega)]
    simp only [List.reverse_append, List.reverse_cons, List.reverse_nil, List.nil_append, List.singleton_append, List.map_cons, List.append_assoc]
    rfl

open Fsymbol_Dual in
theorem dualP (k : Nat) (hk : 150 ≤ k) (p e : Int) (he : -9223372036854775808 ≤ e ∧ e ≤ 9223372036854775807) (L : List Constituent) :
    Fsymbol_Dual k p L e = some (if symP p L then (if fitD e L then (p, L.reverse.map (flip e), 0) else (0, [], 1)) else (0, [], 22)) := by
  unfold Fsymbol_Dual Fsymbol_Dual.b
  rw [validP_val k hk, Option.bind_some]
  by_cases hs : symP p L
  case neg => rw [if_neg (by simpa using hs), if_neg hs]
  rw [if_pos (by simpa using hs), if_pos hs]
  have hb := sym_exp hs
  obtain ⟨j, rfl⟩ : ∃ i, k = i + 1 := ⟨k - 1, by omega⟩
  have h8 := hs.2.2.1
  have h1 := hs.2.1
  obtain ⟨n, hn⟩ : ∃ n, L.length = n + 1 := ⟨L.length - 1, by omega⟩
  have hw : IntKind.wrap .i64 ((L.length : Int) - 1) = (n : Int) := by rw [wrap_id (by omega) (by omega)]; omega
  rw [hw]
  have h1 : l0 (j + 1) (j + 1) p L 0 p e (n : Int) = l0_b (j + 1) (l0 (j + 1) j) (l0b (j + 1) j) p L 0 p e (n : Int) := rfl
  rw [h1]
  unfold l0_b
  have hc := hb L[n] (List.getElem_mem _)
  have w2 : IntKind.wrap .i64 (60 + L[n].Exp) = 60 + L[n].Exp := wrap_id (by omega) (by omega)
  have hw1 : IntKind.wrap .i64 ((n : Int) - 1) = (n : Int) - 1 := wrap_id (by omega) (by omega)
  have htake : L = L.take n ++ [L[n]] := by
    have := take_succ' L n (by omega)
    rw [← hn, List.take_length] at this
    exact this
  have hfit : fitD e L ↔ fitD e (L.take n) ∧ (0 ≤ e - L[n].Exp ∧ e - L[n].Exp ≤ 60) := by
    have := fitD_snoc (e := e) (M := L.take n) (c := L[n])
    rw [← htake] at this
    exact this
  have hrev : L.reverse.map (flip e) = flip e L[n] :: (L.take n).reverse.map (flip e) := by
    have : L.reverse = (L.take n ++ [L[n]]).reverse := by rw [← htake]
    rw [this, List.reverse_append, List.map_append]; rfl
  rw [if_pos (by omega), elt_nat, List.getElem?_eq_getElem (by omega), Option.bind_some, w2]
  by_cases e1 : e < L[n].Exp
  · rw [if_pos e1, if_neg (fun h => by have := (hfit.1 h).2; omega)]; rfl
  rw [if_neg e1]
  by_cases e2 : e > 60 + L[n].Exp
  · rw [if_pos e2, if_neg (fun h => by have := (hfit.1 h).2; omega)]; rfl
  have w3 : IntKind.wrap .i64 (e - L[n].Exp) = e - L[n].Exp := wrap_id (by omega) (by omega)
  rw [if_neg e2, w3, hw1]
  have key := duP_loop (j + 1) p 0 p e he L h8 hb n j [flip e L[n]] (by omega) (by omega) (by simp; omega)
  have key' : l0b (j + 1) j p L 0 p [Constituent.mk (e - L[n].Exp) L[n].Dim L[n].Sign L[n].Odd L[n].Oddity] e ((n : Int) - 1) = _ := key
  rw [key']
  by_cases hf : fitD e (L.take n)
  · rw [if_pos hf, if_pos (hfit.2 ⟨hf, by omega, by omega⟩), hrev]; rfl
  · rw [if_neg hf, if_neg (fun h => hf (hfit.1 h).1)]; rfl

open Fquadformref26_Dual in
theorem dualR (k : Nat) (hk : 200 ≤ k) (p e : Int) (L : List Constituent) (hL : L.length ≤ 40) :
    Fquadformref26_Dual k p L e = some (if symP p L then (if fitD e L then (p, L.reverse.map (flip e), 0) else (0, [], 1)) else (0, [], 22)) := by
  unfold Fquadformref26_Dual Fquadformref26_Dual.b
  rw [validR_val k p L (by omega) (by omega), Option.bind_some]
  by_cases hs : symP p L
  case neg => rw [if_neg (by simpa using hs), if_neg hs]
  rw [if_pos (by simpa using hs), if_pos hs]
  have hb := sym_exp hs
  have h8 := hs.2.2.1
  have h1 := hs.2.1
  obtain ⟨n, hn⟩ : ∃ n, L.length = n + 1 := ⟨L.length - 1, by omega⟩
  have hc := hb L[n] (List.getElem_mem _)
  by_cases e1 : e < 0
  · rw [if_pos e1, if_neg (fun h => by have := h L[n] (List.getElem_mem _); omega)]
  rw [if_neg e1]
  by_cases e2 : e > 120
  · rw [if_pos e2, if_neg (fun h => by have := h L[n] (List.getElem_mem _); omega)]
  rw [if_neg e2]
  obtain ⟨j, rfl⟩ : ∃ i, k = i + 1 := ⟨k - 1, by omega⟩
  have hw : IntKind.wrap .i64 ((L.length : Int) - 1) = (n : Int) := by rw [wrap_id (by omega) (by omega)]; omega
  rw [hw]
  have h1 : l0 (j + 1) (j + 1) p L 0 p e (n : Int) = l0_b (j + 1) (l0 (j + 1) j) (l0b (j + 1) j) p L 0 p e (n : Int) := rfl
  rw [h1]
  unfold l0_b
  have hw1 : IntKind.wrap .i64 ((n : Int) - 1) = (n : Int) - 1 := wrap_id (by omega) (by omega)
  have htake : L = L.take n ++ [L[n]] := by
    have := take_succ' L n (by omega)
    rw [← hn, List.take_length] at this
    exact this
  have hrev : L.reverse.map (flip e) = flip e L[n] :: (L.take n).reverse.map (flip e) := by
    have : L.reverse = (L.take n ++ [L[n]]).reverse := by rw [← htake]
    rw [this, List.reverse_append, List.map_append]; rfl
  have w3 : IntKind.wrap .i64 (e - L[n].Exp) = e - L[n].Exp := wrap_id (by omega) (by omega)
  rw [if_pos (by omega), elt_nat, List.getElem?_eq_getElem (by omega), Option.bind_some, w3, hw1]
  have key := duR_loop (j + 1) p 0 p e (by omega) L h8 hb n j [flip e L[n]] (by omega) (by omega) (by simp; omega)
  have key' : l0b (j + 1) j p L 0 p [Constituent.mk (e - L[n].Exp) L[n].Dim L[n].Sign L[n].Odd L[n].Oddity] e ((n : Int) - 1) = some (.x1 0 p (L.reverse.map (flip e))) := by rw [hrev]; exact key
  rw [key']
  show Fquadformref26_Dual.c1 (j + 1) 0 p (L.reverse.map (flip e)) = _
  unfold Fquadformref26_Dual.c1
  rw [validR_val (j + 1) p (L.reverse.map (flip e)) (by simp; omega) (by simp; omega), Option.bind_some]
  by_cases hf : fitD e L
  · rw [if_pos (by simpa using (sym_flip hs).2 hf), if_pos hf]
  · rw [if_neg (by simpa using fun h => hf ((sym_flip hs).1 h)), if_neg hf]

end Go.Cn
