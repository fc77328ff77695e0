/- The law of walks. -/
import Derived.Test.YtgbijhccgmmkgaaGreatDoorTf11m17
import Derived.Test.YtgbijhccgmmkgaaGreatDoorTf11m24
import Derived.Test.YtgbijhccgmmkgaaGreatDoorTf11m3
import Derived.Test.YtgbijhccgmmkgaaGreatDoorTf11m7
import Derived.Test.YtgbijhccgmmkgaaGreatDoorTw1
import Derived.Test.YtgbijhccgmmkgaaGreatDoorSn1
set_option linter.unusedVariables false
noncomputable section
open Classical
namespace Go.Cn

theorem walk_c1 (p : Int) (L : List Constituent) (i : Int) (hL : L.length ≤ 20) : F0.c1 2000 p L i = some true := by
  unfold F0.c1
  have := wkS_len p L i
  rw [walkP_val 2000 (by decide) p L i (by omega), Option.bind_some, walkR_val 2000 (by decide) p L i (by omega), Option.bind_some, if_pos rfl, same_sym 2000 _ _ (by omega) (by omega), Option.bind_some, if_pos rfl]
  rfl
theorem walk_c0 (p : Int) (L : List Constituent) (i : Int) (s : Bool) (hL : L.length ≤ 20) : F0.c0 2000 p L i s = some true := by
  unfold F0.c0
  split
  · exact walk_c1 p L _ hL
  · exact walk_c1 p L _ hL

theorem fused_made (k : Nat) (hk : 1100 ≤ k) (pr : Int) (D : List A5u8) (hD : D.length ≤ 100) (hok : ∀ a ∈ D, ok_A5u8 a) : ∃ r, raw2 r ∧ dims r ≤ 8 ∧ F7 k pr D = some (2, fuS r) := by
  obtain ⟨r, hr, hraw, hd⟩ := raw_val k 8 (by decide) (by decide) pr D hD hok (by omega)
  refine ⟨r, hraw, hd, ?_⟩
  have h8 := ordR_len hraw.1
  unfold F7 F7.b
  rw [hr, Option.bind_some, fuse_val k hk 2 r (by omega), if_pos ⟨rfl, hraw⟩]
  rfl

/-- The plain law. -/
theorem lawWalk (p0Pr : Int) (p0L : List Constituent) (p1Pr : Int) (p1P : List A5u8) (p2 : Int) (p3 p4 : Bool) (h1' : okL ok_A5u8 p1P) :
    F0 2000 p0Pr p0L p1Pr p1P p2 p3 p4 = some true := by
  unfold F0 F0.b F9 F9.b F11 F11.b
  rw [Option.bind_some]
  by_cases l1 : (p0L.length : Int) > 20
  · rw [if_pos (by simpa using l1)]; rfl
  rw [if_neg (by simpa using l1), Option.bind_some]
  by_cases l2 : (p1P.length : Int) > 20
  · rw [if_pos (by simpa using l2)]; rfl
  rw [if_neg (by simpa using l2)]
  cases p3 with
  | true =>
    obtain ⟨r, hraw, _, e⟩ := fused_made 2000 (by decide) p1Pr p1P (by omega) h1'.2
    have h8 := ordR_len hraw.1
    rw [if_pos rfl, e, Option.bind_some]
    exact walk_c0 2 (fuS r) p2 p4 (by rw [fuS_len]; omega)
  | false =>
    rw [if_neg (by decide)]
    exact walk_c0 _ _ _ _ (by omega)

end Go.Cn
