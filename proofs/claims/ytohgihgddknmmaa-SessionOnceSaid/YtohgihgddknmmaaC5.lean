/- Whether a reply may be: the reference. -/
import Derived.Test.YtohgihgddknmmaaC3
namespace Go.Proofs.Ytohgihgddknmmaa
open Go Go.RowKit
set_option linter.unusedVariables false
set_option linter.unusedSimpArgs false

abbrev PostR (r : PRep) (w0 : World) : Value → World → Prop := fun v w' => v = .int .i64 (repE r) ∧ Mod [] w0 w'
end Go.Proofs.Ytohgihgddknmmaa
