/-
  DERIVED. GIVEN WITH THE SEED: THE CARDS: each row of YtlebigkdpalhjaaDoorRows.lean that lists a variable, with what it lists TIED to the program's text (the seventh form; the later family's looks); each row that meets fmt, with fmt's text TOLD by the authors' own Lean function (tested against real Go, not proved from fmt's source: count such statements apart). THE CARD IS WHAT COUNTS. Prove the row's statement (the work); the ties are given (YtlebigkdpalhjaaDoorTie.lean); close each card by the builder's one call (the guide's Derived/Test/ToyasCard.lean, 'card_holds'). Laid BY PROGRAM, IN A SANDBOX (cutbox-door.mjs). By AI agents, Wed Nov 11 2026. No macro, syntax, notation, axiom, sorry.
-/
import Derived.Test.YtlebigkdpalhjaaDoorRows
import GoSem.ClaimSeven
namespace Go.Proofs.YtlebigkdpalhjaaDoor
namespace Rows

/-- THE TIED CARD OF 'osierlaw20.LinCut'. -/
def linCutCard : Claim7 := { stood := { row := linCutRow, standIns := [], harness := (true, "d8447ce276f5385e0ee9f033296c22aa17b20e7ac18fec9fc1af269cf5249b75"), looks := false }, kinds := [], alts := [], laidByText := true, laidKinds := [.data, .data, .data], laidTests := true, laidLooks := .later }
def LinCutCardSaid : Prop := Claim7.holds Tryd.pinned (.plain (OpenSpec.ofChange linCutSpec)) linCutCard

/-- THE TIED CARD OF 'osierlaw20.LinMany'. -/
def linManyCard : Claim7 := { stood := { row := linManyRow, standIns := [], harness := (true, "d8447ce276f5385e0ee9f033296c22aa17b20e7ac18fec9fc1af269cf5249b75"), looks := false }, kinds := [], alts := [], laidByText := true, laidKinds := [.data, .data, .data], laidTests := true, laidLooks := .later }
def LinManyCardSaid : Prop := Claim7.holds Tryd.pinned (.plain (OpenSpec.ofChange linManySpec)) linManyCard

/-- THE TIED CARD OF 'osierlaw20.LinWrong'. -/
def linWrongCard : Claim7 := { stood := { row := linWrongRow, standIns := [], harness := (true, "d8447ce276f5385e0ee9f033296c22aa17b20e7ac18fec9fc1af269cf5249b75"), looks := false }, kinds := [], alts := [], laidByText := true, laidKinds := [.data, .data, .data], laidTests := true, laidLooks := .later }
def LinWrongCardSaid : Prop := Claim7.holds Tryd.pinned (.plain (OpenSpec.ofChange linWrongSpec)) linWrongCard

/-- THE TIED CARD OF 'osierlaw20.LinAtOnce'. -/
def linAtOnceCard : Claim7 := { stood := { row := linAtOnceRow, standIns := [], harness := (true, "d8447ce276f5385e0ee9f033296c22aa17b20e7ac18fec9fc1af269cf5249b75"), looks := false }, kinds := [], alts := [], laidByText := true, laidKinds := [.data, .data, .data], laidTests := true, laidLooks := .later }
def LinAtOnceCardSaid : Prop := Claim7.holds Tryd.pinned (.plain (OpenSpec.ofChange linAtOnceSpec)) linAtOnceCard

/-- THE TIED CARD OF 'osierlaw20.LinOrders'. -/
def linOrdersCard : Claim7 := { stood := { row := linOrdersRow, standIns := [], harness := (true, "d8447ce276f5385e0ee9f033296c22aa17b20e7ac18fec9fc1af269cf5249b75"), looks := false }, kinds := [], alts := [], laidByText := true, laidKinds := [.data, .data, .data], laidTests := true, laidLooks := .later }
def LinOrdersCardSaid : Prop := Claim7.holds Tryd.pinned (.plain (OpenSpec.ofChange linOrdersSpec)) linOrdersCard

/-- THE TIED CARD OF 'osierlaw20.LinFinds'. -/
def linFindsCard : Claim7 := { stood := { row := linFindsRow, standIns := [], harness := (true, "d8447ce276f5385e0ee9f033296c22aa17b20e7ac18fec9fc1af269cf5249b75"), looks := false }, kinds := [], alts := [], laidByText := true, laidKinds := [.data, .data, .data], laidTests := true, laidLooks := .later }
def LinFindsCardSaid : Prop := Claim7.holds Tryd.pinned (.plain (OpenSpec.ofChange linFindsSpec)) linFindsCard

/-- THE SECOND FORM's CARD OF 'osierlaw20.LinCut'. -/
def linCutUptoCard : Claim7 := { stood := { row := linCutUptoRow, standIns := [], harness := (true, "d8447ce276f5385e0ee9f033296c22aa17b20e7ac18fec9fc1af269cf5249b75"), looks := false }, kinds := [], alts := [], laidByText := true, laidKinds := [.data, .data, .data], laidTests := true, laidLooks := .later }
def LinCutUptoCardSaid : Prop := Claim7.holds Tryd.pinned (.plain (OpenSpec.upto linCutSpec)) linCutUptoCard

/-- THE SECOND FORM's CARD OF 'osierlaw20.LinMany'. -/
def linManyUptoCard : Claim7 := { stood := { row := linManyUptoRow, standIns := [], harness := (true, "d8447ce276f5385e0ee9f033296c22aa17b20e7ac18fec9fc1af269cf5249b75"), looks := false }, kinds := [], alts := [], laidByText := true, laidKinds := [.data, .data, .data], laidTests := true, laidLooks := .later }
def LinManyUptoCardSaid : Prop := Claim7.holds Tryd.pinned (.plain (OpenSpec.upto linManySpec)) linManyUptoCard

/-- THE SECOND FORM's CARD OF 'osierlaw20.LinWrong'. -/
def linWrongUptoCard : Claim7 := { stood := { row := linWrongUptoRow, standIns := [], harness := (true, "d8447ce276f5385e0ee9f033296c22aa17b20e7ac18fec9fc1af269cf5249b75"), looks := false }, kinds := [], alts := [], laidByText := true, laidKinds := [.data, .data, .data], laidTests := true, laidLooks := .later }
def LinWrongUptoCardSaid : Prop := Claim7.holds Tryd.pinned (.plain (OpenSpec.upto linWrongSpec)) linWrongUptoCard

/-- THE SECOND FORM's CARD OF 'osierlaw20.LinAtOnce'. -/
def linAtOnceUptoCard : Claim7 := { stood := { row := linAtOnceUptoRow, standIns := [], harness := (true, "d8447ce276f5385e0ee9f033296c22aa17b20e7ac18fec9fc1af269cf5249b75"), looks := false }, kinds := [], alts := [], laidByText := true, laidKinds := [.data, .data, .data], laidTests := true, laidLooks := .later }
def LinAtOnceUptoCardSaid : Prop := Claim7.holds Tryd.pinned (.plain (OpenSpec.upto linAtOnceSpec)) linAtOnceUptoCard

/-- THE SECOND FORM's CARD OF 'osierlaw20.LinOrders'. -/
def linOrdersUptoCard : Claim7 := { stood := { row := linOrdersUptoRow, standIns := [], harness := (true, "d8447ce276f5385e0ee9f033296c22aa17b20e7ac18fec9fc1af269cf5249b75"), looks := false }, kinds := [], alts := [], laidByText := true, laidKinds := [.data, .data, .data], laidTests := true, laidLooks := .later }
def LinOrdersUptoCardSaid : Prop := Claim7.holds Tryd.pinned (.plain (OpenSpec.upto linOrdersSpec)) linOrdersUptoCard

/-- THE SECOND FORM's CARD OF 'osierlaw20.LinFinds'. -/
def linFindsUptoCard : Claim7 := { stood := { row := linFindsUptoRow, standIns := [], harness := (true, "d8447ce276f5385e0ee9f033296c22aa17b20e7ac18fec9fc1af269cf5249b75"), looks := false }, kinds := [], alts := [], laidByText := true, laidKinds := [.data, .data, .data], laidTests := true, laidLooks := .later }
def LinFindsUptoCardSaid : Prop := Claim7.holds Tryd.pinned (.plain (OpenSpec.upto linFindsSpec)) linFindsUptoCard
end Rows
end Go.Proofs.YtlebigkdpalhjaaDoor
