/- The walks of package host: ports, hosts with ports, texts. -/
import Derived.Test.YtnncgbamppaacaaDoorHost
import Derived.Lib.QuietBelow
import Derived.Deep.QuietTactic
import Derived.BigQuiet
set_option linter.all false
namespace Go.Proofs.YtnncgbamppaacaaDoor
open Go.RowKit Go.Sort Wf
attribute [local go_sem] ex_list app_list get_list

end Go.Proofs.YtnncgbamppaacaaDoor
