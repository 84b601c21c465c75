/-
  DERIVED. GIVEN WITH THE SEED: THE CARDS: each row of YtbgilebgdbgddaaGreatDoorRows.lean that lists a variable, with what it lists TIED to the program's text (the seventh form; the later family's looks); each row that meets fmt, with fmt's text TOLD by the authors' own Lean function (tested against real Go, not proved from fmt's source: count such statements apart). THE CARD IS WHAT COUNTS. Prove the row's statement (the work); the ties are given (YtbgilebgdbgddaaGreatDoorTie.lean); close each card by the builder's one call (the guide's Derived/Test/ToyasCard.lean, 'card_holds'). Laid BY PROGRAM, IN A SANDBOX (cutbox-door.mjs). By AI agents, Wed Nov 11 2026. No macro, syntax, notation, axiom, sorry.
-/
import Derived.Test.YtbgilebgdbgddaaGreatDoorRows
import GoSem.ClaimSeven
namespace Go.Proofs.YtbgilebgdbgddaaGreatDoor
namespace Rows

/-- THE TIED CARD OF 'busbarlaw18.BuildAcceptsWellFormed'. -/
def buildAcceptsWellFormedCard : Claim7 := { stood := { row := buildAcceptsWellFormedRow, standIns := [], harness := (true, "bbbd6ba9d55044f5f88da91e1386ffb82d17cf23b5e8ecd7f2a27fd51695b257"), looks := true }, kinds := [], alts := [], goes := true, laidByText := true, laidKinds := [.data, .data, .data, .data, .sentinel, .sentinel, .listed, .data, .widerDeep, .widerDeep, .widerDeep, .data, .data, .data, .data, .pinned], laidTests := true, laidLooks := .later }
def BuildAcceptsWellFormedCardSaid : Prop := Claim7.holds Tryz.pinned (.plain (OpenSpec.ofChange buildAcceptsWellFormedSpec)) buildAcceptsWellFormedCard

/-- THE TIED CARD OF 'busbarlaw18.BuildConcatenation'. -/
def buildConcatenationCard : Claim7 := { stood := { row := buildConcatenationRow, standIns := [], harness := (true, "bbbd6ba9d55044f5f88da91e1386ffb82d17cf23b5e8ecd7f2a27fd51695b257"), looks := true }, kinds := [], alts := [], goes := true, laidByText := true, laidKinds := [.data, .data, .data, .data, .sentinel, .sentinel, .listed, .data, .widerDeep, .widerDeep, .widerDeep, .data, .data, .data, .data, .pinned], laidTests := true, laidLooks := .later }
def BuildConcatenationCardSaid : Prop := Claim7.holds Tryz.pinned (.plain (OpenSpec.ofChange buildConcatenationSpec)) buildConcatenationCard

/-- THE TIED CARD OF 'busbarlaw21.CacheMatchesReference'. -/
def cacheMatchesReferenceCard : Claim7 := { stood := { row := cacheMatchesReferenceRow, standIns := [], harness := (true, "bbbd6ba9d55044f5f88da91e1386ffb82d17cf23b5e8ecd7f2a27fd51695b257"), looks := true }, kinds := [], alts := [], goes := true, laidByText := true, laidKinds := [.data, .data, .data, .data, .sentinel, .sentinel, .listed, .data, .widerDeep, .widerDeep, .widerDeep, .data, .data, .data, .data, .pinned], laidTests := true, laidLooks := .later }
def CacheMatchesReferenceCardSaid : Prop := Claim7.holds Tryz.pinned (.plain (OpenSpec.ofChange cacheMatchesReferenceSpec)) cacheMatchesReferenceCard

/-- THE TIED CARD OF 'busbarlaw18.BuildMaximalLadder'. -/
def buildMaximalLadderCard : Claim7 := { stood := { row := buildMaximalLadderRow, standIns := [], harness := (true, "bbbd6ba9d55044f5f88da91e1386ffb82d17cf23b5e8ecd7f2a27fd51695b257"), looks := true }, kinds := [], alts := [], goes := true, laidByText := true, laidKinds := [.data, .data, .data, .data, .sentinel, .sentinel, .listed, .data, .widerDeep, .widerDeep, .widerDeep, .data, .data, .data, .data, .pinned], laidTests := true, laidLooks := .later }
def BuildMaximalLadderCardSaid : Prop := Claim7.holds Tryz.pinned (.plain (OpenSpec.ofChange buildMaximalLadderSpec)) buildMaximalLadderCard

/-- THE TIED CARD OF 'busbarlaw18.BuildIgnoresComments'. -/
def buildIgnoresCommentsCard : Claim7 := { stood := { row := buildIgnoresCommentsRow, standIns := [], harness := (true, "bbbd6ba9d55044f5f88da91e1386ffb82d17cf23b5e8ecd7f2a27fd51695b257"), looks := true }, kinds := [], alts := [], goes := true, laidByText := true, laidKinds := [.data, .data, .data, .data, .sentinel, .sentinel, .listed, .data, .widerDeep, .widerDeep, .widerDeep, .data, .data, .data, .data, .pinned], laidTests := true, laidLooks := .later }
def BuildIgnoresCommentsCardSaid : Prop := Claim7.holds Tryz.pinned (.plain (OpenSpec.ofChange buildIgnoresCommentsSpec)) buildIgnoresCommentsCard

/-- THE TIED CARD OF 'busbarlaw21.CacheNilAndCapacity'. -/
def cacheNilAndCapacityCard : Claim7 := { stood := { row := cacheNilAndCapacityRow, standIns := [], harness := (true, "bbbd6ba9d55044f5f88da91e1386ffb82d17cf23b5e8ecd7f2a27fd51695b257"), looks := true }, kinds := [], alts := [], goes := true, laidByText := true, laidKinds := [.data, .data, .data, .data, .sentinel, .sentinel, .listed, .data, .widerDeep, .widerDeep, .widerDeep, .data, .data, .data, .data, .pinned], laidTests := true, laidLooks := .later }
def CacheNilAndCapacityCardSaid : Prop := Claim7.holds Tryz.pinned (.plain (OpenSpec.ofChange cacheNilAndCapacitySpec)) cacheNilAndCapacityCard

/-- THE TIED CARD OF 'busbarlaw21.CacheConcurrentLookups'. -/
def cacheConcurrentLookupsCard : Claim7 := { stood := { row := cacheConcurrentLookupsRow, standIns := [], harness := (true, "bbbd6ba9d55044f5f88da91e1386ffb82d17cf23b5e8ecd7f2a27fd51695b257"), looks := true }, kinds := [], alts := [], goes := true, laidByText := true, laidKinds := [.data, .data, .data, .data, .sentinel, .sentinel, .listed, .data, .widerDeep, .widerDeep, .widerDeep, .data, .data, .data, .data, .pinned], laidTests := true, laidLooks := .later }
def CacheConcurrentLookupsCardSaid : Prop := Claim7.holds Tryz.pinned (.plain (OpenSpec.ofChange cacheConcurrentLookupsSpec)) cacheConcurrentLookupsCard

/-- THE TIED CARD OF 'busbarlaw21.CacheKeepsEntries'. -/
def cacheKeepsEntriesCard : Claim7 := { stood := { row := cacheKeepsEntriesRow, standIns := [], harness := (true, "bbbd6ba9d55044f5f88da91e1386ffb82d17cf23b5e8ecd7f2a27fd51695b257"), looks := true }, kinds := [], alts := [], goes := true, laidByText := true, laidKinds := [.data, .data, .data, .data, .sentinel, .sentinel, .listed, .data, .widerDeep, .widerDeep, .widerDeep, .data, .data, .data, .data, .pinned], laidTests := true, laidLooks := .later }
def CacheKeepsEntriesCardSaid : Prop := Claim7.holds Tryz.pinned (.plain (OpenSpec.ofChange cacheKeepsEntriesSpec)) cacheKeepsEntriesCard

/-- THE SECOND FORM's CARD OF 'busbarlaw18.BuildAcceptsWellFormed'. -/
def buildAcceptsWellFormedUptoCard : Claim7 := { stood := { row := buildAcceptsWellFormedUptoRow, standIns := [], harness := (true, "bbbd6ba9d55044f5f88da91e1386ffb82d17cf23b5e8ecd7f2a27fd51695b257"), looks := true }, kinds := [], alts := [], goes := true, laidByText := true, laidKinds := [.data, .data, .data, .data, .sentinel, .sentinel, .listed, .data, .widerDeep, .widerDeep, .widerDeep, .data, .data, .data, .data, .pinned], laidTests := true, laidLooks := .later }
def BuildAcceptsWellFormedUptoCardSaid : Prop := Claim7.holds Tryz.pinned (.plain (OpenSpec.upto buildAcceptsWellFormedSpec)) buildAcceptsWellFormedUptoCard

/-- THE SECOND FORM's CARD OF 'busbarlaw18.BuildConcatenation'. -/
def buildConcatenationUptoCard : Claim7 := { stood := { row := buildConcatenationUptoRow, standIns := [], harness := (true, "bbbd6ba9d55044f5f88da91e1386ffb82d17cf23b5e8ecd7f2a27fd51695b257"), looks := true }, kinds := [], alts := [], goes := true, laidByText := true, laidKinds := [.data, .data, .data, .data, .sentinel, .sentinel, .listed, .data, .widerDeep, .widerDeep, .widerDeep, .data, .data, .data, .data, .pinned], laidTests := true, laidLooks := .later }
def BuildConcatenationUptoCardSaid : Prop := Claim7.holds Tryz.pinned (.plain (OpenSpec.upto buildConcatenationSpec)) buildConcatenationUptoCard

/-- THE SECOND FORM's CARD OF 'busbarlaw18.BuildMaximalLadder'. -/
def buildMaximalLadderUptoCard : Claim7 := { stood := { row := buildMaximalLadderUptoRow, standIns := [], harness := (true, "bbbd6ba9d55044f5f88da91e1386ffb82d17cf23b5e8ecd7f2a27fd51695b257"), looks := true }, kinds := [], alts := [], goes := true, laidByText := true, laidKinds := [.data, .data, .data, .data, .sentinel, .sentinel, .listed, .data, .widerDeep, .widerDeep, .widerDeep, .data, .data, .data, .data, .pinned], laidTests := true, laidLooks := .later }
def BuildMaximalLadderUptoCardSaid : Prop := Claim7.holds Tryz.pinned (.plain (OpenSpec.upto buildMaximalLadderSpec)) buildMaximalLadderUptoCard

/-- THE SECOND FORM's CARD OF 'busbarlaw18.BuildIgnoresComments'. -/
def buildIgnoresCommentsUptoCard : Claim7 := { stood := { row := buildIgnoresCommentsUptoRow, standIns := [], harness := (true, "bbbd6ba9d55044f5f88da91e1386ffb82d17cf23b5e8ecd7f2a27fd51695b257"), looks := true }, kinds := [], alts := [], goes := true, laidByText := true, laidKinds := [.data, .data, .data, .data, .sentinel, .sentinel, .listed, .data, .widerDeep, .widerDeep, .widerDeep, .data, .data, .data, .data, .pinned], laidTests := true, laidLooks := .later }
def BuildIgnoresCommentsUptoCardSaid : Prop := Claim7.holds Tryz.pinned (.plain (OpenSpec.upto buildIgnoresCommentsSpec)) buildIgnoresCommentsUptoCard
end Rows
end Go.Proofs.YtbgilebgdbgddaaGreatDoor
