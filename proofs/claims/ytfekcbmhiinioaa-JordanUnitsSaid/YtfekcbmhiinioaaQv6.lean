/- The plain law of JordanUnits. -/
import Derived.Test.YtfekcbmhiinioaaQv5
set_option linter.unusedVariables false
noncomputable section
namespace Go.Cn

/-- The plain law. -/
theorem lawU (p0 : List A5u8) (p1 p2 p3 : Int) (h0 : okL ok_A5u8 p0) (h1 : okI .u8 p1) (h2 : okI .u8 p2) (h3 : okI .u8 p3) : Fquadformlaw24_JordanUnits 300 p0 p1 p2 p3 = some true := by
  unfold Fquadformlaw24_JordanUnits Fquadformlaw24_JordanUnits.b
  obtain ⟨q, hq, hm⟩ := oddPrimeV 300 p1 (u8b h1).1
  have ho := eight_odd hm
  have hw : IntKind.wrap .i64 (q - 1) = q - 1 := wrap_id (by have := ho.1; omega) (by have := ho.2.1; omega)
  have q1 := ho.1
  rw [hq, Option.bind_some]
  rcases blocksV 300 q ho.1 ho.2.1 p0 h0.1 h0.2 (by decide) with h | ⟨pre, l, h, hl, hg⟩
  · rw [h, Option.bind_some]
    show Fquadformlaw24_JordanUnits.c0 300 q p2 p3 q = _
    unfold Fquadformlaw24_JordanUnits.c0
    rw [hw, if_pos (by omega)]
    rfl
  · rw [h, Option.bind_some]
    exact c1V q hm pre l hl hg p2 p3 (u8b h2).1 (u8b h2).2 (u8b h3).1 (u8b h3).2

end Go.Cn
