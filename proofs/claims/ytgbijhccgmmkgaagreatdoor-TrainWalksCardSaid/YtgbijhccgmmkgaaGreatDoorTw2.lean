/- The law of walks. -/
import Derived.Test.YtgbijhccgmmkgaaGreatDoorTf11m17
import Derived.Test.YtgbijhccgmmkgaaGreatDoorTy11
import Derived.Test.YtgbijhccgmmkgaaGreatDoorTf11m0
import Derived.Test.YtgbijhccgmmkgaaGreatDoorTf11m11
import Derived.Test.YtgbijhccgmmkgaaGreatDoorTf11m8
import Derived.Test.YtgbijhccgmmkgaaGreatDoorProg
import Derived.Test.YtgbijhccgmmkgaaGreatDoorTf11m5
import Derived.Test.YtgbijhccgmmkgaaGreatDoorTf11m3
import Derived.Test.YtgbijhccgmmkgaaGreatDoorTw1
import Derived.Test.YtgbijhccgmmkgaaGreatDoorSn1
set_option linter.unusedVariables false
noncomputable section
open Classical
namespace Go.Cn

theorem fused_made (k : Nat) (hk : 1100 ≤ k) (pr : Int) (D : List A5u8) (hD : D.length ≤ 100) (hok : ∀ a ∈ D, ok_A5u8 a) : ∃ r, raw2 r ∧ dims r ≤ 8 ∧ F7 k pr D = some (2, fuS r) := by
  obtain ⟨r, hr, hraw, hd⟩ := raw_val k 8 (by decide) (by decide) pr D hD hok (by omega)
  refine ⟨r, hraw, hd, ?_⟩
  have h8 := ordR_len hraw.1
  unfold F7 F7.b
  rw [hr, Option.bind_some, fuse_val k hk 2 r (by omega), if_pos ⟨rfl, hraw⟩]
  rfl

end Go.Cn
