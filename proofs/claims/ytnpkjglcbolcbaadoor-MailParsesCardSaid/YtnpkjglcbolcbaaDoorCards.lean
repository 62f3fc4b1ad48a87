/-
  DERIVED. GIVEN WITH THE SEED: THE CARDS: each row of YtnpkjglcbolcbaaDoorRows.lean that lists a variable, with what it lists TIED to the program's text (the seventh form; the later family's looks); each row that meets fmt, with fmt's text TOLD by the authors' own Lean function (tested against real Go, not proved from fmt's source: count such statements apart). THE CARD IS WHAT COUNTS. Prove the row's statement (the work); the ties are given (YtnpkjglcbolcbaaDoorTie.lean); close each card by the builder's one call (the guide's Derived/Test/ToyasCard.lean, 'card_holds'). Laid BY PROGRAM, IN A SANDBOX (cutbox-door.mjs). By AI agents, Wed Nov 11 2026. No macro, syntax, notation, axiom, sorry.
-/
import Derived.Test.YtnpkjglcbolcbaaDoorRows
import GoSem.ClaimSeven
namespace Go.Proofs.YtnpkjglcbolcbaaDoor
namespace Rows

/-- THE TIED CARD OF 'webfingerlaw07.WeburlBack'. -/
def weburlBackCard : Claim7 := { stood := { row := weburlBackRow, standIns := [], harness := (true, "cdbe5f0a7d5df099477affd347bf24d63aa257a1334e7476384c406633d68df0"), looks := false }, kinds := [], alts := [], laidByText := true, laidKinds := [.data, .pinned], laidTests := true, laidLooks := .later }
def WeburlBackCardSaid : Prop := Claim7.holds Tryd.pinned (.plain (OpenSpec.ofChange weburlBackSpec)) weburlBackCard

/-- THE TIED CARD OF 'webfingerlaw08.AcctParses'. -/
def acctParsesCard : Claim7 := { stood := { row := acctParsesRow, standIns := [], harness := (true, "cdbe5f0a7d5df099477affd347bf24d63aa257a1334e7476384c406633d68df0"), looks := false }, kinds := [], alts := [], laidByText := true, laidKinds := [.data, .pinned], laidTests := true, laidLooks := .later }
def AcctParsesCardSaid : Prop := Claim7.holds Tryd.pinned (.plain (OpenSpec.ofChange acctParsesSpec)) acctParsesCard

/-- THE TIED CARD OF 'webfingerlaw08.AcctBack'. -/
def acctBackCard : Claim7 := { stood := { row := acctBackRow, standIns := [], harness := (true, "cdbe5f0a7d5df099477affd347bf24d63aa257a1334e7476384c406633d68df0"), looks := false }, kinds := [], alts := [], laidByText := true, laidKinds := [.data, .pinned], laidTests := true, laidLooks := .later }
def AcctBackCardSaid : Prop := Claim7.holds Tryd.pinned (.plain (OpenSpec.ofChange acctBackSpec)) acctBackCard

/-- THE TIED CARD OF 'webfingerlaw09.MailParses'. -/
def mailParsesCard : Claim7 := { stood := { row := mailParsesRow, standIns := [], harness := (true, "cdbe5f0a7d5df099477affd347bf24d63aa257a1334e7476384c406633d68df0"), looks := false }, kinds := [], alts := [], laidByText := true, laidKinds := [.data, .pinned], laidTests := true, laidLooks := .later }
def MailParsesCardSaid : Prop := Claim7.holds Tryd.pinned (.plain (OpenSpec.ofChange mailParsesSpec)) mailParsesCard

/-- THE TIED CARD OF 'webfingerlaw09.MailLocals'. -/
def mailLocalsCard : Claim7 := { stood := { row := mailLocalsRow, standIns := [], harness := (true, "cdbe5f0a7d5df099477affd347bf24d63aa257a1334e7476384c406633d68df0"), looks := false }, kinds := [], alts := [], laidByText := true, laidKinds := [.data, .pinned], laidTests := true, laidLooks := .later }
def MailLocalsCardSaid : Prop := Claim7.holds Tryd.pinned (.plain (OpenSpec.ofChange mailLocalsSpec)) mailLocalsCard

/-- THE TIED CARD OF 'webfingerlaw09.MailBack'. -/
def mailBackCard : Claim7 := { stood := { row := mailBackRow, standIns := [], harness := (true, "cdbe5f0a7d5df099477affd347bf24d63aa257a1334e7476384c406633d68df0"), looks := false }, kinds := [], alts := [], laidByText := true, laidKinds := [.data, .pinned], laidTests := true, laidLooks := .later }
def MailBackCardSaid : Prop := Claim7.holds Tryd.pinned (.plain (OpenSpec.ofChange mailBackSpec)) mailBackCard

/-- THE TIED CARD OF 'webfingerlaw23.TemplateExpands'. -/
def templateExpandsCard : Claim7 := { stood := { row := templateExpandsRow, standIns := [], harness := (true, "cdbe5f0a7d5df099477affd347bf24d63aa257a1334e7476384c406633d68df0"), looks := false }, kinds := [], alts := [], laidByText := true, laidKinds := [.data, .pinned], laidTests := true, laidLooks := .later }
def TemplateExpandsCardSaid : Prop := Claim7.holds Tryd.pinned (.plain (OpenSpec.ofChange templateExpandsSpec)) templateExpandsCard

/-- THE TIED CARD OF 'webfingerlaw23.TemplateKeeps'. -/
def templateKeepsCard : Claim7 := { stood := { row := templateKeepsRow, standIns := [], harness := (true, "cdbe5f0a7d5df099477affd347bf24d63aa257a1334e7476384c406633d68df0"), looks := false }, kinds := [], alts := [], laidByText := true, laidKinds := [.data, .pinned], laidTests := true, laidLooks := .later }
def TemplateKeepsCardSaid : Prop := Claim7.holds Tryd.pinned (.plain (OpenSpec.ofChange templateKeepsSpec)) templateKeepsCard

/-- THE TIED CARD OF 'webfingerlaw23.TemplateSafe'. -/
def templateSafeCard : Claim7 := { stood := { row := templateSafeRow, standIns := [], harness := (true, "cdbe5f0a7d5df099477affd347bf24d63aa257a1334e7476384c406633d68df0"), looks := false }, kinds := [], alts := [], laidByText := true, laidKinds := [.data, .pinned], laidTests := true, laidLooks := .later }
def TemplateSafeCardSaid : Prop := Claim7.holds Tryd.pinned (.plain (OpenSpec.ofChange templateSafeSpec)) templateSafeCard

/-- THE TIED CARD OF 'webfingerlaw10.DidParses'. -/
def didParsesCard : Claim7 := { stood := { row := didParsesRow, standIns := [], harness := (true, "cdbe5f0a7d5df099477affd347bf24d63aa257a1334e7476384c406633d68df0"), looks := false }, kinds := [], alts := [], laidByText := true, laidKinds := [.data, .pinned], laidTests := true, laidLooks := .later }
def DidParsesCardSaid : Prop := Claim7.holds Tryd.pinned (.plain (OpenSpec.ofChange didParsesSpec)) didParsesCard

/-- THE TIED CARD OF 'webfingerlaw10.DidFormats'. -/
def didFormatsCard : Claim7 := { stood := { row := didFormatsRow, standIns := [], harness := (true, "cdbe5f0a7d5df099477affd347bf24d63aa257a1334e7476384c406633d68df0"), looks := false }, kinds := [], alts := [], laidByText := true, laidKinds := [.data, .pinned], laidTests := true, laidLooks := .later }
def DidFormatsCardSaid : Prop := Claim7.holds Tryd.pinned (.plain (OpenSpec.ofChange didFormatsSpec)) didFormatsCard

/-- THE TIED CARD OF 'webfingerlaw10.DidResolves'. -/
def didResolvesCard : Claim7 := { stood := { row := didResolvesRow, standIns := [], harness := (true, "cdbe5f0a7d5df099477affd347bf24d63aa257a1334e7476384c406633d68df0"), looks := false }, kinds := [], alts := [], laidByText := true, laidKinds := [.data, .pinned], laidTests := true, laidLooks := .later }
def DidResolvesCardSaid : Prop := Claim7.holds Tryd.pinned (.plain (OpenSpec.ofChange didResolvesSpec)) didResolvesCard

/-- THE TIED CARD OF 'webfingerlaw10.DidBack'. -/
def didBackCard : Claim7 := { stood := { row := didBackRow, standIns := [], harness := (true, "cdbe5f0a7d5df099477affd347bf24d63aa257a1334e7476384c406633d68df0"), looks := false }, kinds := [], alts := [], laidByText := true, laidKinds := [.data, .pinned], laidTests := true, laidLooks := .later }
def DidBackCardSaid : Prop := Claim7.holds Tryd.pinned (.plain (OpenSpec.ofChange didBackSpec)) didBackCard

/-- THE SECOND FORM's CARD OF 'webfingerlaw07.WeburlBack'. -/
def weburlBackUptoCard : Claim7 := { stood := { row := weburlBackUptoRow, standIns := [], harness := (true, "cdbe5f0a7d5df099477affd347bf24d63aa257a1334e7476384c406633d68df0"), looks := false }, kinds := [], alts := [], laidByText := true, laidKinds := [.data, .pinned], laidTests := true, laidLooks := .later }
def WeburlBackUptoCardSaid : Prop := Claim7.holds Tryd.pinned (.plain (OpenSpec.upto weburlBackSpec)) weburlBackUptoCard

/-- THE SECOND FORM's CARD OF 'webfingerlaw08.AcctParses'. -/
def acctParsesUptoCard : Claim7 := { stood := { row := acctParsesUptoRow, standIns := [], harness := (true, "cdbe5f0a7d5df099477affd347bf24d63aa257a1334e7476384c406633d68df0"), looks := false }, kinds := [], alts := [], laidByText := true, laidKinds := [.data, .pinned], laidTests := true, laidLooks := .later }
def AcctParsesUptoCardSaid : Prop := Claim7.holds Tryd.pinned (.plain (OpenSpec.upto acctParsesSpec)) acctParsesUptoCard

/-- THE SECOND FORM's CARD OF 'webfingerlaw08.AcctBack'. -/
def acctBackUptoCard : Claim7 := { stood := { row := acctBackUptoRow, standIns := [], harness := (true, "cdbe5f0a7d5df099477affd347bf24d63aa257a1334e7476384c406633d68df0"), looks := false }, kinds := [], alts := [], laidByText := true, laidKinds := [.data, .pinned], laidTests := true, laidLooks := .later }
def AcctBackUptoCardSaid : Prop := Claim7.holds Tryd.pinned (.plain (OpenSpec.upto acctBackSpec)) acctBackUptoCard

/-- THE SECOND FORM's CARD OF 'webfingerlaw09.MailParses'. -/
def mailParsesUptoCard : Claim7 := { stood := { row := mailParsesUptoRow, standIns := [], harness := (true, "cdbe5f0a7d5df099477affd347bf24d63aa257a1334e7476384c406633d68df0"), looks := false }, kinds := [], alts := [], laidByText := true, laidKinds := [.data, .pinned], laidTests := true, laidLooks := .later }
def MailParsesUptoCardSaid : Prop := Claim7.holds Tryd.pinned (.plain (OpenSpec.upto mailParsesSpec)) mailParsesUptoCard

/-- THE SECOND FORM's CARD OF 'webfingerlaw09.MailLocals'. -/
def mailLocalsUptoCard : Claim7 := { stood := { row := mailLocalsUptoRow, standIns := [], harness := (true, "cdbe5f0a7d5df099477affd347bf24d63aa257a1334e7476384c406633d68df0"), looks := false }, kinds := [], alts := [], laidByText := true, laidKinds := [.data, .pinned], laidTests := true, laidLooks := .later }
def MailLocalsUptoCardSaid : Prop := Claim7.holds Tryd.pinned (.plain (OpenSpec.upto mailLocalsSpec)) mailLocalsUptoCard

/-- THE SECOND FORM's CARD OF 'webfingerlaw09.MailBack'. -/
def mailBackUptoCard : Claim7 := { stood := { row := mailBackUptoRow, standIns := [], harness := (true, "cdbe5f0a7d5df099477affd347bf24d63aa257a1334e7476384c406633d68df0"), looks := false }, kinds := [], alts := [], laidByText := true, laidKinds := [.data, .pinned], laidTests := true, laidLooks := .later }
def MailBackUptoCardSaid : Prop := Claim7.holds Tryd.pinned (.plain (OpenSpec.upto mailBackSpec)) mailBackUptoCard

/-- THE SECOND FORM's CARD OF 'webfingerlaw23.TemplateExpands'. -/
def templateExpandsUptoCard : Claim7 := { stood := { row := templateExpandsUptoRow, standIns := [], harness := (true, "cdbe5f0a7d5df099477affd347bf24d63aa257a1334e7476384c406633d68df0"), looks := false }, kinds := [], alts := [], laidByText := true, laidKinds := [.data, .pinned], laidTests := true, laidLooks := .later }
def TemplateExpandsUptoCardSaid : Prop := Claim7.holds Tryd.pinned (.plain (OpenSpec.upto templateExpandsSpec)) templateExpandsUptoCard

/-- THE SECOND FORM's CARD OF 'webfingerlaw23.TemplateKeeps'. -/
def templateKeepsUptoCard : Claim7 := { stood := { row := templateKeepsUptoRow, standIns := [], harness := (true, "cdbe5f0a7d5df099477affd347bf24d63aa257a1334e7476384c406633d68df0"), looks := false }, kinds := [], alts := [], laidByText := true, laidKinds := [.data, .pinned], laidTests := true, laidLooks := .later }
def TemplateKeepsUptoCardSaid : Prop := Claim7.holds Tryd.pinned (.plain (OpenSpec.upto templateKeepsSpec)) templateKeepsUptoCard

/-- THE SECOND FORM's CARD OF 'webfingerlaw23.TemplateSafe'. -/
def templateSafeUptoCard : Claim7 := { stood := { row := templateSafeUptoRow, standIns := [], harness := (true, "cdbe5f0a7d5df099477affd347bf24d63aa257a1334e7476384c406633d68df0"), looks := false }, kinds := [], alts := [], laidByText := true, laidKinds := [.data, .pinned], laidTests := true, laidLooks := .later }
def TemplateSafeUptoCardSaid : Prop := Claim7.holds Tryd.pinned (.plain (OpenSpec.upto templateSafeSpec)) templateSafeUptoCard

/-- THE SECOND FORM's CARD OF 'webfingerlaw10.DidParses'. -/
def didParsesUptoCard : Claim7 := { stood := { row := didParsesUptoRow, standIns := [], harness := (true, "cdbe5f0a7d5df099477affd347bf24d63aa257a1334e7476384c406633d68df0"), looks := false }, kinds := [], alts := [], laidByText := true, laidKinds := [.data, .pinned], laidTests := true, laidLooks := .later }
def DidParsesUptoCardSaid : Prop := Claim7.holds Tryd.pinned (.plain (OpenSpec.upto didParsesSpec)) didParsesUptoCard

/-- THE SECOND FORM's CARD OF 'webfingerlaw10.DidFormats'. -/
def didFormatsUptoCard : Claim7 := { stood := { row := didFormatsUptoRow, standIns := [], harness := (true, "cdbe5f0a7d5df099477affd347bf24d63aa257a1334e7476384c406633d68df0"), looks := false }, kinds := [], alts := [], laidByText := true, laidKinds := [.data, .pinned], laidTests := true, laidLooks := .later }
def DidFormatsUptoCardSaid : Prop := Claim7.holds Tryd.pinned (.plain (OpenSpec.upto didFormatsSpec)) didFormatsUptoCard

/-- THE SECOND FORM's CARD OF 'webfingerlaw10.DidResolves'. -/
def didResolvesUptoCard : Claim7 := { stood := { row := didResolvesUptoRow, standIns := [], harness := (true, "cdbe5f0a7d5df099477affd347bf24d63aa257a1334e7476384c406633d68df0"), looks := false }, kinds := [], alts := [], laidByText := true, laidKinds := [.data, .pinned], laidTests := true, laidLooks := .later }
def DidResolvesUptoCardSaid : Prop := Claim7.holds Tryd.pinned (.plain (OpenSpec.upto didResolvesSpec)) didResolvesUptoCard

/-- THE SECOND FORM's CARD OF 'webfingerlaw10.DidBack'. -/
def didBackUptoCard : Claim7 := { stood := { row := didBackUptoRow, standIns := [], harness := (true, "cdbe5f0a7d5df099477affd347bf24d63aa257a1334e7476384c406633d68df0"), looks := false }, kinds := [], alts := [], laidByText := true, laidKinds := [.data, .pinned], laidTests := true, laidLooks := .later }
def DidBackUptoCardSaid : Prop := Claim7.holds Tryd.pinned (.plain (OpenSpec.upto didBackSpec)) didBackUptoCard
end Rows
end Go.Proofs.YtnpkjglcbolcbaaDoor
