/- ReadLost, the program's and the reference's. -/
import Derived.Test.YtnfghcflpnlbiaaC3M13
namespace Go.Ae.C3
set_option linter.unusedSimpArgs false
set_option linter.unusedVariables false
abbrev wV (a b u n : Int) (ws : List ByteArray) : AV := .agg [.int .i64 a, .int .i64 b, .int .i64 u, .int .i64 n, .rd true (rws encT ws)]
end Go.Ae.C3
namespace Go.Ae.C3
set_option linter.unusedSimpArgs false
set_option linter.unusedVariables false
end Go.Ae.C3
