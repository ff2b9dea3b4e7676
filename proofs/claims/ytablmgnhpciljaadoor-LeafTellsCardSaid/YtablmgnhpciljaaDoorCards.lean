/-
  DERIVED. GIVEN WITH THE SEED: THE CARDS: each row of YtablmgnhpciljaaDoorRows.lean that lists a variable, with what it lists TIED to the program's text (the seventh form; the later family's looks); each row that meets fmt, with fmt's text TOLD by the authors' own Lean function (tested against real Go, not proved from fmt's source: count such statements apart). THE CARD IS WHAT COUNTS. Prove the row's statement (the work); the ties are given (YtablmgnhpciljaaDoorTie.lean); close each card by the builder's one call (the guide's Derived/Test/ToyasCard.lean, 'card_holds'). Laid BY PROGRAM, IN A SANDBOX (cutbox-door.mjs). By AI agents, Wed Nov 11 2026. No macro, syntax, notation, axiom, sorry.
-/
import Derived.Test.YtablmgnhpciljaaDoorRows
import GoSem.ClaimSeven
namespace Go.Proofs.YtablmgnhpciljaaDoor
namespace Rows

/-- THE TIED CARD OF 'sheaflaw5.LeafTells'. -/
def leafTellsCard : Claim7 := { stood := { row := leafTellsRow, standIns := [], harness := (true, "976910024ff2a2eb21f501cedd4cfb97de87c195c4831093db65915413597c10"), looks := false }, kinds := [], alts := [], laidByText := true, laidKinds := [.data, .pinned], laidTests := true, laidLooks := .later }
def LeafTellsCardSaid : Prop := Claim7.holds Tryd.pinned (.plain (OpenSpec.ofChange leafTellsSpec)) leafTellsCard

/-- THE TIED CARD OF 'sheaflaw6.CatalogTells'. -/
def catalogTellsCard : Claim7 := { stood := { row := catalogTellsRow, standIns := [], harness := (true, "976910024ff2a2eb21f501cedd4cfb97de87c195c4831093db65915413597c10"), looks := false }, kinds := [], alts := [], laidByText := true, laidKinds := [.data, .pinned], laidTests := true, laidLooks := .later }
def CatalogTellsCardSaid : Prop := Claim7.holds Tryd.pinned (.plain (OpenSpec.ofChange catalogTellsSpec)) catalogTellsCard

/-- THE TIED CARD OF 'sheaflaw6.CatalogEdges'. -/
def catalogEdgesCard : Claim7 := { stood := { row := catalogEdgesRow, standIns := [], harness := (true, "976910024ff2a2eb21f501cedd4cfb97de87c195c4831093db65915413597c10"), looks := false }, kinds := [], alts := [], laidByText := true, laidKinds := [.data, .pinned], laidTests := true, laidLooks := .later }
def CatalogEdgesCardSaid : Prop := Claim7.holds Tryd.pinned (.plain (OpenSpec.ofChange catalogEdgesSpec)) catalogEdgesCard

/-- THE TIED CARD OF 'sheaflaw6.CatalogWith'. -/
def catalogWithCard : Claim7 := { stood := { row := catalogWithRow, standIns := [], harness := (true, "976910024ff2a2eb21f501cedd4cfb97de87c195c4831093db65915413597c10"), looks := false }, kinds := [], alts := [], laidByText := true, laidKinds := [.data, .pinned], laidTests := true, laidLooks := .later }
def CatalogWithCardSaid : Prop := Claim7.holds Tryd.pinned (.plain (OpenSpec.ofChange catalogWithSpec)) catalogWithCard

/-- THE TIED CARD OF 'sheaflaw6.CatalogBack'. -/
def catalogBackCard : Claim7 := { stood := { row := catalogBackRow, standIns := [], harness := (true, "976910024ff2a2eb21f501cedd4cfb97de87c195c4831093db65915413597c10"), looks := false }, kinds := [], alts := [], laidByText := true, laidKinds := [.data, .pinned], laidTests := true, laidLooks := .later }
def CatalogBackCardSaid : Prop := Claim7.holds Tryd.pinned (.plain (OpenSpec.ofChange catalogBackSpec)) catalogBackCard

/-- THE SECOND FORM's CARD OF 'sheaflaw5.LeafTells'. -/
def leafTellsUptoCard : Claim7 := { stood := { row := leafTellsUptoRow, standIns := [], harness := (true, "976910024ff2a2eb21f501cedd4cfb97de87c195c4831093db65915413597c10"), looks := false }, kinds := [], alts := [], laidByText := true, laidKinds := [.data, .pinned], laidTests := true, laidLooks := .later }
def LeafTellsUptoCardSaid : Prop := Claim7.holds Tryd.pinned (.plain (OpenSpec.upto leafTellsSpec)) leafTellsUptoCard

/-- THE SECOND FORM's CARD OF 'sheaflaw6.CatalogTells'. -/
def catalogTellsUptoCard : Claim7 := { stood := { row := catalogTellsUptoRow, standIns := [], harness := (true, "976910024ff2a2eb21f501cedd4cfb97de87c195c4831093db65915413597c10"), looks := false }, kinds := [], alts := [], laidByText := true, laidKinds := [.data, .pinned], laidTests := true, laidLooks := .later }
def CatalogTellsUptoCardSaid : Prop := Claim7.holds Tryd.pinned (.plain (OpenSpec.upto catalogTellsSpec)) catalogTellsUptoCard

/-- THE SECOND FORM's CARD OF 'sheaflaw6.CatalogEdges'. -/
def catalogEdgesUptoCard : Claim7 := { stood := { row := catalogEdgesUptoRow, standIns := [], harness := (true, "976910024ff2a2eb21f501cedd4cfb97de87c195c4831093db65915413597c10"), looks := false }, kinds := [], alts := [], laidByText := true, laidKinds := [.data, .pinned], laidTests := true, laidLooks := .later }
def CatalogEdgesUptoCardSaid : Prop := Claim7.holds Tryd.pinned (.plain (OpenSpec.upto catalogEdgesSpec)) catalogEdgesUptoCard

/-- THE SECOND FORM's CARD OF 'sheaflaw6.CatalogWith'. -/
def catalogWithUptoCard : Claim7 := { stood := { row := catalogWithUptoRow, standIns := [], harness := (true, "976910024ff2a2eb21f501cedd4cfb97de87c195c4831093db65915413597c10"), looks := false }, kinds := [], alts := [], laidByText := true, laidKinds := [.data, .pinned], laidTests := true, laidLooks := .later }
def CatalogWithUptoCardSaid : Prop := Claim7.holds Tryd.pinned (.plain (OpenSpec.upto catalogWithSpec)) catalogWithUptoCard

/-- THE SECOND FORM's CARD OF 'sheaflaw6.CatalogBack'. -/
def catalogBackUptoCard : Claim7 := { stood := { row := catalogBackUptoRow, standIns := [], harness := (true, "976910024ff2a2eb21f501cedd4cfb97de87c195c4831093db65915413597c10"), looks := false }, kinds := [], alts := [], laidByText := true, laidKinds := [.data, .pinned], laidTests := true, laidLooks := .later }
def CatalogBackUptoCardSaid : Prop := Claim7.holds Tryd.pinned (.plain (OpenSpec.upto catalogBackSpec)) catalogBackUptoCard
end Rows
end Go.Proofs.YtablmgnhpciljaaDoor
