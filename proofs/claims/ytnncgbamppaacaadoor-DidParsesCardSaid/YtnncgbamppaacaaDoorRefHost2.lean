/- The walks of the reference of package host: hosts, ports, texts. -/
import Derived.Test.YtnncgbamppaacaaDoorRefHost
set_option linter.all false
namespace Go.Proofs.YtnncgbamppaacaaDoor
open Go.RowKit Go.Sort Wf
attribute [local go_sem] ex_list app_list get_list

end Go.Proofs.YtnncgbamppaacaaDoor
