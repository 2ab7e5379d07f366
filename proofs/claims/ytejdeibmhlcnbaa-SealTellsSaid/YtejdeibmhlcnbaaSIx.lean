/- One place of an array value (a row laid as a value). -/
import Derived.Test.YtejdeibmhlcnbaaAbsF
set_option linter.unusedVariables false
namespace Go.Abs
open Go
def ixVT (y : Ty) (l : List Value) (i : Int) : Option (ZT y.zs) := decO y (indexA (DAR l.length 1) 0 (.agg l.toArray) (.int .i64 i))
end Go.Abs
