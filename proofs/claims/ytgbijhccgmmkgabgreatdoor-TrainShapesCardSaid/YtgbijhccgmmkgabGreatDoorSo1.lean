/- Any symbol, bent or not, that the laws of trains speak of. -/
import Derived.Test.YtgbijhccgmmkgabGreatDoorTf13m6
import Derived.Test.YtgbijhccgmmkgabGreatDoorTa5
set_option linter.unusedVariables false
noncomputable section
open Classical
namespace Go.Cn

theorem some_some (k : Nat) (hk : 1100 ≤ k) (p : Int) (L : List ua0) (pr : Int) (D : List A5u8) (a f n : Int) (made : Bool) (hL : L.length ≤ 20) (hp : okI .u8 pr) (hD : D.length ≤ 20) (hok : ∀ a ∈ D, um3 a) (ha : okI .u8 a) :
    ∃ q o, F11 k p L pr D a f n made = some (q, o) ∧ o.length ≤ 20 := by
  unfold F11 F11.b
  cases made with
  | false => rw [if_neg (by decide)]; exact ⟨p, L, rfl, hL⟩
  | true =>
    obtain ⟨q, o, e, h⟩ := any_some k hk pr D hp (by omega) hok
    obtain ⟨q', o', e', h'⟩ := bent_some k q o a f n (by omega) ha
    rw [if_pos rfl, e, Option.bind_some]
    dsimp only
    rw [e']
    exact ⟨q', o', rfl, by omega⟩

end Go.Cn
