/-
  DERIVED. GIVEN WITH THE SEED: THE CARDS: each row of YtnncgbamppaacaaDoorRows.lean that lists a variable, with what it lists TIED to the program's text (the seventh form; the later family's looks); each row that meets fmt, with fmt's text TOLD by the authors' own Lean function (tested against real Go, not proved from fmt's source: count such statements apart). THE CARD IS WHAT COUNTS. Prove the row's statement (the work); the ties are given (YtnncgbamppaacaaDoorTie.lean); close each card by the builder's one call (the guide's Derived/Test/ToyasCard.lean, 'card_holds'). Laid BY PROGRAM, IN A SANDBOX (cutbox-door.mjs). By AI agents, Wed Nov 11 2026. No macro, syntax, notation, axiom, sorry.
-/
import Derived.Test.YtnncgbamppaacaaDoorRows
import GoSem.ClaimSeven
namespace Go.Proofs.YtnncgbamppaacaaDoor
namespace Rows

/-- THE TIED CARD OF 'webfingerlaw10.DidParses'. -/
def didParsesCard : Claim7 := { stood := { row := didParsesRow, standIns := [], harness := (true, "3a2f4850b24f33cd381a14bf696aa84a49caf0bdee40471bf1d05f5925df07ca"), looks := false }, kinds := [], alts := [], laidByText := true, laidKinds := [.data, .pinned], laidTests := true, laidLooks := .later }
def DidParsesCardSaid : Prop := Claim7.holds Tryd.pinned (.plain (OpenSpec.ofChange didParsesSpec)) didParsesCard

/-- THE TIED CARD OF 'webfingerlaw10.DidFormats'. -/
def didFormatsCard : Claim7 := { stood := { row := didFormatsRow, standIns := [], harness := (true, "3a2f4850b24f33cd381a14bf696aa84a49caf0bdee40471bf1d05f5925df07ca"), looks := false }, kinds := [], alts := [], laidByText := true, laidKinds := [.data, .pinned], laidTests := true, laidLooks := .later }
def DidFormatsCardSaid : Prop := Claim7.holds Tryd.pinned (.plain (OpenSpec.ofChange didFormatsSpec)) didFormatsCard

/-- THE TIED CARD OF 'webfingerlaw10.DidResolves'. -/
def didResolvesCard : Claim7 := { stood := { row := didResolvesRow, standIns := [], harness := (true, "3a2f4850b24f33cd381a14bf696aa84a49caf0bdee40471bf1d05f5925df07ca"), looks := false }, kinds := [], alts := [], laidByText := true, laidKinds := [.data, .pinned], laidTests := true, laidLooks := .later }
def DidResolvesCardSaid : Prop := Claim7.holds Tryd.pinned (.plain (OpenSpec.ofChange didResolvesSpec)) didResolvesCard

/-- THE TIED CARD OF 'webfingerlaw10.DidBack'. -/
def didBackCard : Claim7 := { stood := { row := didBackRow, standIns := [], harness := (true, "3a2f4850b24f33cd381a14bf696aa84a49caf0bdee40471bf1d05f5925df07ca"), looks := false }, kinds := [], alts := [], laidByText := true, laidKinds := [.data, .pinned], laidTests := true, laidLooks := .later }
def DidBackCardSaid : Prop := Claim7.holds Tryd.pinned (.plain (OpenSpec.ofChange didBackSpec)) didBackCard

/-- THE TIED CARD OF 'webfingerlaw23.TemplateExpands'. -/
def templateExpandsCard : Claim7 := { stood := { row := templateExpandsRow, standIns := [], harness := (true, "3a2f4850b24f33cd381a14bf696aa84a49caf0bdee40471bf1d05f5925df07ca"), looks := false }, kinds := [], alts := [], laidByText := true, laidKinds := [.data, .pinned], laidTests := true, laidLooks := .later }
def TemplateExpandsCardSaid : Prop := Claim7.holds Tryd.pinned (.plain (OpenSpec.ofChange templateExpandsSpec)) templateExpandsCard

/-- THE TIED CARD OF 'webfingerlaw23.TemplateKeeps'. -/
def templateKeepsCard : Claim7 := { stood := { row := templateKeepsRow, standIns := [], harness := (true, "3a2f4850b24f33cd381a14bf696aa84a49caf0bdee40471bf1d05f5925df07ca"), looks := false }, kinds := [], alts := [], laidByText := true, laidKinds := [.data, .pinned], laidTests := true, laidLooks := .later }
def TemplateKeepsCardSaid : Prop := Claim7.holds Tryd.pinned (.plain (OpenSpec.ofChange templateKeepsSpec)) templateKeepsCard

/-- THE TIED CARD OF 'webfingerlaw23.TemplateSafe'. -/
def templateSafeCard : Claim7 := { stood := { row := templateSafeRow, standIns := [], harness := (true, "3a2f4850b24f33cd381a14bf696aa84a49caf0bdee40471bf1d05f5925df07ca"), looks := false }, kinds := [], alts := [], laidByText := true, laidKinds := [.data, .pinned], laidTests := true, laidLooks := .later }
def TemplateSafeCardSaid : Prop := Claim7.holds Tryd.pinned (.plain (OpenSpec.ofChange templateSafeSpec)) templateSafeCard

/-- THE TIED CARD OF 'webfingerlaw09.MailLocals'. -/
def mailLocalsCard : Claim7 := { stood := { row := mailLocalsRow, standIns := [], harness := (true, "3a2f4850b24f33cd381a14bf696aa84a49caf0bdee40471bf1d05f5925df07ca"), looks := false }, kinds := [], alts := [], laidByText := true, laidKinds := [.data, .pinned], laidTests := true, laidLooks := .later }
def MailLocalsCardSaid : Prop := Claim7.holds Tryd.pinned (.plain (OpenSpec.ofChange mailLocalsSpec)) mailLocalsCard

/-- THE TIED CARD OF 'webfingerlaw09.MailBack'. -/
def mailBackCard : Claim7 := { stood := { row := mailBackRow, standIns := [], harness := (true, "3a2f4850b24f33cd381a14bf696aa84a49caf0bdee40471bf1d05f5925df07ca"), looks := false }, kinds := [], alts := [], laidByText := true, laidKinds := [.data, .pinned], laidTests := true, laidLooks := .later }
def MailBackCardSaid : Prop := Claim7.holds Tryd.pinned (.plain (OpenSpec.ofChange mailBackSpec)) mailBackCard

/-- THE SECOND FORM's CARD OF 'webfingerlaw10.DidParses'. -/
def didParsesUptoCard : Claim7 := { stood := { row := didParsesUptoRow, standIns := [], harness := (true, "3a2f4850b24f33cd381a14bf696aa84a49caf0bdee40471bf1d05f5925df07ca"), looks := false }, kinds := [], alts := [], laidByText := true, laidKinds := [.data, .pinned], laidTests := true, laidLooks := .later }
def DidParsesUptoCardSaid : Prop := Claim7.holds Tryd.pinned (.plain (OpenSpec.upto didParsesSpec)) didParsesUptoCard

/-- THE SECOND FORM's CARD OF 'webfingerlaw10.DidFormats'. -/
def didFormatsUptoCard : Claim7 := { stood := { row := didFormatsUptoRow, standIns := [], harness := (true, "3a2f4850b24f33cd381a14bf696aa84a49caf0bdee40471bf1d05f5925df07ca"), looks := false }, kinds := [], alts := [], laidByText := true, laidKinds := [.data, .pinned], laidTests := true, laidLooks := .later }
def DidFormatsUptoCardSaid : Prop := Claim7.holds Tryd.pinned (.plain (OpenSpec.upto didFormatsSpec)) didFormatsUptoCard

/-- THE SECOND FORM's CARD OF 'webfingerlaw10.DidResolves'. -/
def didResolvesUptoCard : Claim7 := { stood := { row := didResolvesUptoRow, standIns := [], harness := (true, "3a2f4850b24f33cd381a14bf696aa84a49caf0bdee40471bf1d05f5925df07ca"), looks := false }, kinds := [], alts := [], laidByText := true, laidKinds := [.data, .pinned], laidTests := true, laidLooks := .later }
def DidResolvesUptoCardSaid : Prop := Claim7.holds Tryd.pinned (.plain (OpenSpec.upto didResolvesSpec)) didResolvesUptoCard

/-- THE SECOND FORM's CARD OF 'webfingerlaw10.DidBack'. -/
def didBackUptoCard : Claim7 := { stood := { row := didBackUptoRow, standIns := [], harness := (true, "3a2f4850b24f33cd381a14bf696aa84a49caf0bdee40471bf1d05f5925df07ca"), looks := false }, kinds := [], alts := [], laidByText := true, laidKinds := [.data, .pinned], laidTests := true, laidLooks := .later }
def DidBackUptoCardSaid : Prop := Claim7.holds Tryd.pinned (.plain (OpenSpec.upto didBackSpec)) didBackUptoCard

/-- THE SECOND FORM's CARD OF 'webfingerlaw23.TemplateExpands'. -/
def templateExpandsUptoCard : Claim7 := { stood := { row := templateExpandsUptoRow, standIns := [], harness := (true, "3a2f4850b24f33cd381a14bf696aa84a49caf0bdee40471bf1d05f5925df07ca"), looks := false }, kinds := [], alts := [], laidByText := true, laidKinds := [.data, .pinned], laidTests := true, laidLooks := .later }
def TemplateExpandsUptoCardSaid : Prop := Claim7.holds Tryd.pinned (.plain (OpenSpec.upto templateExpandsSpec)) templateExpandsUptoCard

/-- THE SECOND FORM's CARD OF 'webfingerlaw23.TemplateKeeps'. -/
def templateKeepsUptoCard : Claim7 := { stood := { row := templateKeepsUptoRow, standIns := [], harness := (true, "3a2f4850b24f33cd381a14bf696aa84a49caf0bdee40471bf1d05f5925df07ca"), looks := false }, kinds := [], alts := [], laidByText := true, laidKinds := [.data, .pinned], laidTests := true, laidLooks := .later }
def TemplateKeepsUptoCardSaid : Prop := Claim7.holds Tryd.pinned (.plain (OpenSpec.upto templateKeepsSpec)) templateKeepsUptoCard

/-- THE SECOND FORM's CARD OF 'webfingerlaw23.TemplateSafe'. -/
def templateSafeUptoCard : Claim7 := { stood := { row := templateSafeUptoRow, standIns := [], harness := (true, "3a2f4850b24f33cd381a14bf696aa84a49caf0bdee40471bf1d05f5925df07ca"), looks := false }, kinds := [], alts := [], laidByText := true, laidKinds := [.data, .pinned], laidTests := true, laidLooks := .later }
def TemplateSafeUptoCardSaid : Prop := Claim7.holds Tryd.pinned (.plain (OpenSpec.upto templateSafeSpec)) templateSafeUptoCard

/-- THE SECOND FORM's CARD OF 'webfingerlaw09.MailLocals'. -/
def mailLocalsUptoCard : Claim7 := { stood := { row := mailLocalsUptoRow, standIns := [], harness := (true, "3a2f4850b24f33cd381a14bf696aa84a49caf0bdee40471bf1d05f5925df07ca"), looks := false }, kinds := [], alts := [], laidByText := true, laidKinds := [.data, .pinned], laidTests := true, laidLooks := .later }
def MailLocalsUptoCardSaid : Prop := Claim7.holds Tryd.pinned (.plain (OpenSpec.upto mailLocalsSpec)) mailLocalsUptoCard

/-- THE SECOND FORM's CARD OF 'webfingerlaw09.MailBack'. -/
def mailBackUptoCard : Claim7 := { stood := { row := mailBackUptoRow, standIns := [], harness := (true, "3a2f4850b24f33cd381a14bf696aa84a49caf0bdee40471bf1d05f5925df07ca"), looks := false }, kinds := [], alts := [], laidByText := true, laidKinds := [.data, .pinned], laidTests := true, laidLooks := .later }
def MailBackUptoCardSaid : Prop := Claim7.holds Tryd.pinned (.plain (OpenSpec.upto mailBackSpec)) mailBackUptoCard
end Rows
end Go.Proofs.YtnncgbamppaacaaDoor
