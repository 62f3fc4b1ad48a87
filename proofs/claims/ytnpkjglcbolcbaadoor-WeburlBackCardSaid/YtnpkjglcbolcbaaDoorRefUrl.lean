/- The walk of the reference's Parse. -/
import Derived.Test.YtnpkjglcbolcbaaDoorUrlW2
import Derived.Test.YtnpkjglcbolcbaaDoorRefUri3
import Derived.Test.YtnpkjglcbolcbaaDoorRefPct2
import Derived.Test.YtnpkjglcbolcbaaDoorUriN
import Derived.Test.YtnpkjglcbolcbaaDoorUriW2
import Derived.Test.YtnpkjglcbolcbaaDoorPlainQ
set_option linter.all false
set_option maxRecDepth 20000
namespace Go.Proofs.YtnpkjglcbolcbaaDoor
open Go Vc Go.RowKit Wf
set_option linter.unusedSimpArgs false
end Go.Proofs.YtnpkjglcbolcbaaDoor
