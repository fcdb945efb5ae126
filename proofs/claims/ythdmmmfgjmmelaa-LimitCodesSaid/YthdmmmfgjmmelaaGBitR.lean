/- PRINTED BY gen.py (own work): what calls come to, and the proofs of it. -/
import Derived.Test.YthdmmmfgjmmelaaVcJ
import Derived.Test.YthdmmmfgjmmelaaProg
namespace Go.Proofs.Ythdmmmfgjmmelaa
open Go Go.Proofs
set_option linter.unusedVariables false
set_option maxRecDepth 100000

end Go.Proofs.Ythdmmmfgjmmelaa
