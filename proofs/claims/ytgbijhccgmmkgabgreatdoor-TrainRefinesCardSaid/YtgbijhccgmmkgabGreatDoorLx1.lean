/- The least oddities: what the search finds, and that it finds. -/
import Derived.Test.YtgbijhccgmmkgabGreatDoorLr1
set_option linter.unusedVariables false
noncomputable section
open Classical
namespace Go.Cn

/-- M is L but for the oddities at the places of c -/
structure Only (c : List Int) (L M : List ua0) : Prop where
  len : M.length = L.length
  shp : ∀ j : Int, 0 ≤ j → ∀ o, wo M j o = wo L j o
  off : ∀ j : Int, 0 ≤ j → j ∉ c → (ati M j).Oddity = (ati L j).Oddity
theorem only_refl (c : List Int) (L : List ua0) : Only c L L := ⟨rfl, fun _ _ _ => rfl, fun _ _ _ => rfl⟩
theorem uh6 {c : List Int} {L M N : List ua0} (h : Only c L M) (h' : Only c M N) : Only c L N :=
  ⟨h'.len.trans h.len, fun j hj o => (h'.shp j hj o).trans (h.shp j hj o), fun j hj hc => (h'.off j hj hc).trans (h.off j hj hc)⟩
theorem only_mono {c d : List Int} {L M : List ua0} (h : Only c L M) (hd : ∀ i ∈ c, i ∈ d) : Only d L M :=
  ⟨h.len, h.shp, fun j hj hc => h.off j hj (fun g => hc (hd j g))⟩
theorem only_set {c : List Int} {L : List ua0} {i : Int} (o : Int) (h0 : 0 ≤ i) (h1 : i < (L.length : Int)) (hc : i ∈ c) : Only c L (setO L i o) := by
  refine ⟨ud3 L i o, fun j hj x => ?_, fun j hj hn => ?_⟩
  · unfold wo
    rw [ati_setO h0 h1 hj]
    by_cases e : j = i
    · rw [if_pos e]
    · rw [if_neg e]
  · rw [ati_setO h0 h1 hj, if_neg (fun e => hn (by rw [e]; exact hc))]

theorem rfGo_only {c d : List Int} (hcd : ∀ i ∈ c, i ∈ d) {f : List ua0 → Int → Bool × List ua0} {N : Nat} (hf : ∀ L t, L.length = N → Only c L (f L t).2) {i t : Int} (h0 : 0 ≤ i) (h1 : i < (N : Int)) (hi : i ∈ d) : ∀ (m : Nat) (o : Int) (L : List ua0), L.length = N → Only d L (rfGo f i t m o L).2
  | 0, o, L, _ => only_refl d L
  | m + 1, o, L, hL => by
    have k1 := only_set o h0 (by rw [hL]; exact h1) hi (L := L)
    have k2 := only_mono (hf (setO L i o) ((t - o + 8) % 8) (by rw [ud3]; exact hL)) hcd
    unfold rfGo
    split
    · split
      · exact uh6 k1 k2
      · exact uh6 (uh6 k1 k2) (rfGo_only hcd hf h0 h1 hi m (o + 1) _ (by rw [k2.len, ud3]; exact hL))
    · exact uh6 k1 (rfGo_only hcd hf h0 h1 hi m (o + 1) _ (by rw [ud3]; exact hL))
theorem rfS_only : ∀ (c : List Int) (L : List ua0) (t : Int), inR L.length c → Only c L (rfS c L t).2
  | [], L, t, _ => only_refl [] L
  | i :: c, L, t, h => by
    have hi := h i (by simp)
    exact rfGo_only (c := c) (d := i :: c) (N := L.length) (fun x hx => by simp [hx]) (fun M t hM => rfS_only c M t (by rw [hM]; exact fun x hx => h x (by simp [hx]))) hi.1 hi.2 (by simp) 8 0 L rfl

/-- oddities g make the places of c legal, and add up to t -/
def Okg (L : List ua0) : List Int → Int → List Int → Prop
  | [], t, [] => t = 0
  | i :: c, t, o :: g => 0 ≤ o ∧ o ≤ 7 ∧ legalS (wo L i o) ∧ Okg L c ((t - o + 8) % 8) g
  | _, _, _ => False
def lle : List Int → List Int → Prop
  | [], [] => True
  | x :: xs, y :: ys => x < y ∨ (x = y ∧ lle xs ys)
  | _, _ => False
def vals (M : List ua0) (c : List Int) : List Int := c.map fun i => (ati M i).Oddity
theorem okg_congr {L M : List ua0} : ∀ {c : List Int} {t : Int} {g : List Int}, (∀ i ∈ c, ∀ o, wo M i o = wo L i o) → (Okg M c t g ↔ Okg L c t g)
  | [], t, [], h => Iff.rfl
  | [], t, _ :: _, h => Iff.rfl
  | _ :: _, t, [], h => Iff.rfl
  | i :: c, t, o :: g, h => by
    unfold Okg
    rw [h i (by simp) o, okg_congr (c := c) (fun x hx => h x (by simp [hx]))]

theorem rfS_spec : ∀ (c : List Int) (L : List ua0) (t : Int), inR L.length c → c.Nodup →
    ((rfS c L t).1 = true → Okg L c t (vals (rfS c L t).2 c)) ∧ ∀ g, Okg L c t g → (rfS c L t).1 = true ∧ lle (vals (rfS c L t).2 c) g
  | [], L, t, _, _ => by
    refine ⟨fun h => ?_, fun g hg => ?_⟩
    · show t = 0
      exact eq_of_beq h
    · cases g with
      | nil =>
        have : t = 0 := hg
        exact ⟨by subst this; rfl, trivial⟩
      | cons o g => exact absurd hg (by simp [Okg])
  | i :: c, L, t, hin, hnd => by
    have hi := hin i (by simp)
    obtain ⟨n1, n2⟩ := List.nodup_cons.1 hnd
    have hinc : inR L.length c := fun x hx => hin x (by simp [hx])
    have main : ∀ (m : Nat) (o : Int) (M : List ua0), o + m = 8 → 0 ≤ o → Only (i :: c) L M →
        ((rfGo (rfS c) i t m o M).1 = true → Okg L (i :: c) t (vals (rfGo (rfS c) i t m o M).2 (i :: c))) ∧ ∀ o' g, o ≤ o' → Okg L (i :: c) t (o' :: g) → (rfGo (rfS c) i t m o M).1 = true ∧ lle (vals (rfGo (rfS c) i t m o M).2 (i :: c)) (o' :: g) := by
      intro m
      induction m with
      | zero =>
        intro o M ho h0 hM
        refine ⟨fun h => absurd h (by simp [rfGo]), fun o' g hle hg => ?_⟩
        have := hg.2.1
        omega
      | succ m ih =>
        intro o M ho h0 hM
        have k1 : Only (i :: c) M (setO M i o) := only_set o hi.1 (by rw [hM.len]; exact hi.2) (by simp)
        have hM1 := uh6 hM k1
        have hr := rfS_only c (setO M i o) ((t - o + 8) % 8) (by rw [hM1.len]; exact hinc)
        have hM2 : Only (i :: c) L (rfS c (setO M i o) ((t - o + 8) % 8)).2 := uh6 hM1 (only_mono hr (fun x hx => by simp [hx]))
        obtain ⟨s1, s2⟩ := rfS_spec c (setO M i o) ((t - o + 8) % 8) (by rw [hM1.len]; exact hinc) n2
        have hcg : ∀ g, Okg (setO M i o) c ((t - o + 8) % 8) g ↔ Okg L c ((t - o + 8) % 8) g := fun g => okg_congr (fun x hx w => hM1.shp x (hinc x hx).1 w)
        have hwo : wo M i o = wo L i o := hM.shp i hi.1 o
        have hval : (ati (rfS c (setO M i o) ((t - o + 8) % 8)).2 i).Oddity = o := by
          rw [hr.off i hi.1 n1, ati_setO hi.1 (by rw [hM.len]; exact hi.2) hi.1, if_pos rfl]
        unfold rfGo
        by_cases hl : legalS (wo M i o)
        · rw [if_pos hl]
          by_cases h1 : (rfS c (setO M i o) ((t - o + 8) % 8)).1 = true
          · rw [if_pos h1]
            refine ⟨fun _ => ?_, fun o' g hle hg => ⟨rfl, ?_⟩⟩
            · show Okg L (i :: c) t ((ati (rfS c (setO M i o) ((t - o + 8) % 8)).2 i).Oddity :: vals (rfS c (setO M i o) ((t - o + 8) % 8)).2 c)
              rw [hval]
              exact ⟨h0, by omega, by rw [← hwo]; exact hl, (hcg _).1 (s1 h1)⟩
            · show lle ((ati (rfS c (setO M i o) ((t - o + 8) % 8)).2 i).Oddity :: vals (rfS c (setO M i o) ((t - o + 8) % 8)).2 c) (o' :: g)
              rw [hval]
              by_cases e : o = o'
              · subst e
                exact .inr ⟨rfl, (s2 g ((hcg g).2 hg.2.2.2)).2⟩
              · exact .inl (by omega)
          · rw [if_neg h1]
            obtain ⟨q1, q2⟩ := ih (o + 1) _ (by omega) (by omega) hM2
            refine ⟨q1, fun o' g hle hg => ?_⟩
            by_cases e : o = o'
            · subst e
              exact absurd (s2 g ((hcg g).2 hg.2.2.2)).1 h1
            · exact q2 o' g (by omega) hg
        · rw [if_neg hl]
          obtain ⟨q1, q2⟩ := ih (o + 1) _ (by omega) (by omega) hM1
          refine ⟨q1, fun o' g hle hg => ?_⟩
          by_cases e : o = o'
          · subst e
            exact absurd (by rw [hwo]; exact hg.2.2.1) hl
          · exact q2 o' g (by omega) hg
    obtain ⟨q1, q2⟩ := main 8 0 L (by omega) (by omega) (only_refl _ L)
    refine ⟨q1, fun g hg => ?_⟩
    cases g with
    | nil => exact absurd hg (by simp [Okg])
    | cons o g => exact q2 o g hg.1 hg

end Go.Cn
