/- Exponents of a list in order. -/
import Derived.Test.YtgbijhccgmmkgabGreatDoorOr1
import Derived.Test.YtgbijhccgmmkgabGreatDoorTb2
set_option linter.unusedVariables false
noncomputable section
namespace Go.Cn

theorem ord_exp {L : List ua0} (h : ordR L) : expOk L := fun i hi => by
  have := ascR_mem (by omega) h.1 (ati L (i : Int)) (by rw [ati_nat hi]; exact List.getElem_mem hi)
  omega

end Go.Cn
