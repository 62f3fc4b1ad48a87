/- The walks of the reference of package body. -/
import Derived.Test.YtjponbpdlioocaaBodyP
import Derived.Test.YtjponbpdlioocaaSmall
import Derived.StillTailTactics
import Derived.Deep.QuietTactic
import Derived.BigQuiet
set_option linter.all false
namespace Go.Proofs.Ytjponbpdlioocaa
open Go.RowKit Wf
attribute [local go_sem] ex_list app_list get_list

end Go.Proofs.Ytjponbpdlioocaa
