/- What every world holds that the law is called in: the library's two tables. -/
import Derived.Test.YtddmhilamoghcaaDoorProg
import Derived.Test.YtddmhilamoghcaaDoorBase
import Derived.Lib.LaidU8
set_option linter.unusedVariables false
namespace Go.Proofs.YtddmhilamoghcaaDoor
open Go.RowKit

/-- The library's two tables hold what they hold. -/
def Tabs (w : World) : Prop := Lib.Utf8Tabs 1 2 w
theorem Tabs.kept {w w' : World} (h : Tabs w) (hk : Kept w w') : Tabs w' :=
  ⟨fun c hc => hk.cell (h.1 c hc), fun i hi => ⟨hk.cell (h.2 i hi).1, hk.cell (h.2 i hi).2⟩⟩

/-- What every world holds. -/
def WorldOk (w : World) : Prop := Tabs w
end Go.Proofs.YtddmhilamoghcaaDoor
