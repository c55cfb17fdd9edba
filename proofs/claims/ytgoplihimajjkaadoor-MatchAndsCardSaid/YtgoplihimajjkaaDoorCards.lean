/-
  DERIVED. GIVEN WITH THE SEED: THE CARDS: each row of YtgoplihimajjkaaDoorRows.lean that lists a variable, with what it lists TIED to the program's text (the seventh form; the later family's looks); each row that meets fmt, with fmt's text TOLD by the authors' own Lean function (tested against real Go, not proved from fmt's source: count such statements apart). THE CARD IS WHAT COUNTS. Prove the row's statement (the work); the ties are given (YtgoplihimajjkaaDoorTie.lean); close each card by the builder's one call (the guide's Derived/Test/ToyasCard.lean, 'card_holds'). Laid BY PROGRAM, IN A SANDBOX (cutbox-door.mjs). By AI agents, Wed Nov 11 2026. No macro, syntax, notation, axiom, sorry.
-/
import Derived.Test.YtgoplihimajjkaaDoorRows
import GoSem.ClaimSeven
namespace Go.Proofs.YtgoplihimajjkaaDoor
namespace Rows

/-- THE TIED CARD OF 'carrefourlaw04.HeadWidths'. -/
def headWidthsCard : Claim7 := { stood := { row := headWidthsRow, standIns := [], harness := (true, "bb9be9eff2ac62d1eac6b4a8db1c289b6f655ede84a6312588a93e4a03da1322"), looks := false }, kinds := [], alts := [], laidByText := true, laidKinds := [.data], laidTests := true, laidLooks := .later }
def HeadWidthsCardSaid : Prop := Claim7.holds Tryd.pinned (.plain (OpenSpec.ofChange headWidthsSpec)) headWidthsCard

/-- THE TIED CARD OF 'carrefourlaw04.HeadTwice'. -/
def headTwiceCard : Claim7 := { stood := { row := headTwiceRow, standIns := [], harness := (true, "bb9be9eff2ac62d1eac6b4a8db1c289b6f655ede84a6312588a93e4a03da1322"), looks := false }, kinds := [], alts := [], laidByText := true, laidKinds := [.data], laidTests := true, laidLooks := .later }
def HeadTwiceCardSaid : Prop := Claim7.holds Tryd.pinned (.plain (OpenSpec.ofChange headTwiceSpec)) headTwiceCard

/-- THE TIED CARD OF 'carrefourlaw04.HeadGets'. -/
def headGetsCard : Claim7 := { stood := { row := headGetsRow, standIns := [], harness := (true, "bb9be9eff2ac62d1eac6b4a8db1c289b6f655ede84a6312588a93e4a03da1322"), looks := false }, kinds := [], alts := [], laidByText := true, laidKinds := [.data], laidTests := true, laidLooks := .later }
def HeadGetsCardSaid : Prop := Claim7.holds Tryd.pinned (.plain (OpenSpec.ofChange headGetsSpec)) headGetsCard

/-- THE TIED CARD OF 'carrefourlaw04.HeadOrders'. -/
def headOrdersCard : Claim7 := { stood := { row := headOrdersRow, standIns := [], harness := (true, "bb9be9eff2ac62d1eac6b4a8db1c289b6f655ede84a6312588a93e4a03da1322"), looks := false }, kinds := [], alts := [], laidByText := true, laidKinds := [.data], laidTests := true, laidLooks := .later }
def HeadOrdersCardSaid : Prop := Claim7.holds Tryd.pinned (.plain (OpenSpec.ofChange headOrdersSpec)) headOrdersCard

/-- THE TIED CARD OF 'carrefourlaw15.MatchHits'. -/
def matchHitsCard : Claim7 := { stood := { row := matchHitsRow, standIns := [], harness := (true, "bb9be9eff2ac62d1eac6b4a8db1c289b6f655ede84a6312588a93e4a03da1322"), looks := false }, kinds := [], alts := [], laidByText := true, laidKinds := [.data], laidTests := true, laidLooks := .later }
def MatchHitsCardSaid : Prop := Claim7.holds Tryd.pinned (.plain (OpenSpec.ofChange matchHitsSpec)) matchHitsCard

/-- THE TIED CARD OF 'carrefourlaw04.HeadWiths'. -/
def headWithsCard : Claim7 := { stood := { row := headWithsRow, standIns := [], harness := (true, "bb9be9eff2ac62d1eac6b4a8db1c289b6f655ede84a6312588a93e4a03da1322"), looks := false }, kinds := [], alts := [], laidByText := true, laidKinds := [.data], laidTests := true, laidLooks := .later }
def HeadWithsCardSaid : Prop := Claim7.holds Tryd.pinned (.plain (OpenSpec.ofChange headWithsSpec)) headWithsCard

/-- THE TIED CARD OF 'carrefourlaw15.MatchMakes'. -/
def matchMakesCard : Claim7 := { stood := { row := matchMakesRow, standIns := [], harness := (true, "bb9be9eff2ac62d1eac6b4a8db1c289b6f655ede84a6312588a93e4a03da1322"), looks := false }, kinds := [], alts := [], laidByText := true, laidKinds := [.data], laidTests := true, laidLooks := .later }
def MatchMakesCardSaid : Prop := Claim7.holds Tryd.pinned (.plain (OpenSpec.ofChange matchMakesSpec)) matchMakesCard

/-- THE TIED CARD OF 'carrefourlaw15.MatchNets'. -/
def matchNetsCard : Claim7 := { stood := { row := matchNetsRow, standIns := [], harness := (true, "bb9be9eff2ac62d1eac6b4a8db1c289b6f655ede84a6312588a93e4a03da1322"), looks := false }, kinds := [], alts := [], laidByText := true, laidKinds := [.data], laidTests := true, laidLooks := .later }
def MatchNetsCardSaid : Prop := Claim7.holds Tryd.pinned (.plain (OpenSpec.ofChange matchNetsSpec)) matchNetsCard

/-- THE TIED CARD OF 'carrefourlaw15.MatchAnds'. -/
def matchAndsCard : Claim7 := { stood := { row := matchAndsRow, standIns := [], harness := (true, "bb9be9eff2ac62d1eac6b4a8db1c289b6f655ede84a6312588a93e4a03da1322"), looks := false }, kinds := [], alts := [], laidByText := true, laidKinds := [.data], laidTests := true, laidLooks := .later }
def MatchAndsCardSaid : Prop := Claim7.holds Tryd.pinned (.plain (OpenSpec.ofChange matchAndsSpec)) matchAndsCard

/-- THE SECOND FORM's CARD OF 'carrefourlaw04.HeadWidths'. -/
def headWidthsUptoCard : Claim7 := { stood := { row := headWidthsUptoRow, standIns := [], harness := (true, "bb9be9eff2ac62d1eac6b4a8db1c289b6f655ede84a6312588a93e4a03da1322"), looks := false }, kinds := [], alts := [], laidByText := true, laidKinds := [.data], laidTests := true, laidLooks := .later }
def HeadWidthsUptoCardSaid : Prop := Claim7.holds Tryd.pinned (.plain (OpenSpec.upto headWidthsSpec)) headWidthsUptoCard

/-- THE SECOND FORM's CARD OF 'carrefourlaw04.HeadTwice'. -/
def headTwiceUptoCard : Claim7 := { stood := { row := headTwiceUptoRow, standIns := [], harness := (true, "bb9be9eff2ac62d1eac6b4a8db1c289b6f655ede84a6312588a93e4a03da1322"), looks := false }, kinds := [], alts := [], laidByText := true, laidKinds := [.data], laidTests := true, laidLooks := .later }
def HeadTwiceUptoCardSaid : Prop := Claim7.holds Tryd.pinned (.plain (OpenSpec.upto headTwiceSpec)) headTwiceUptoCard

/-- THE SECOND FORM's CARD OF 'carrefourlaw04.HeadGets'. -/
def headGetsUptoCard : Claim7 := { stood := { row := headGetsUptoRow, standIns := [], harness := (true, "bb9be9eff2ac62d1eac6b4a8db1c289b6f655ede84a6312588a93e4a03da1322"), looks := false }, kinds := [], alts := [], laidByText := true, laidKinds := [.data], laidTests := true, laidLooks := .later }
def HeadGetsUptoCardSaid : Prop := Claim7.holds Tryd.pinned (.plain (OpenSpec.upto headGetsSpec)) headGetsUptoCard

/-- THE SECOND FORM's CARD OF 'carrefourlaw04.HeadOrders'. -/
def headOrdersUptoCard : Claim7 := { stood := { row := headOrdersUptoRow, standIns := [], harness := (true, "bb9be9eff2ac62d1eac6b4a8db1c289b6f655ede84a6312588a93e4a03da1322"), looks := false }, kinds := [], alts := [], laidByText := true, laidKinds := [.data], laidTests := true, laidLooks := .later }
def HeadOrdersUptoCardSaid : Prop := Claim7.holds Tryd.pinned (.plain (OpenSpec.upto headOrdersSpec)) headOrdersUptoCard

/-- THE SECOND FORM's CARD OF 'carrefourlaw15.MatchHits'. -/
def matchHitsUptoCard : Claim7 := { stood := { row := matchHitsUptoRow, standIns := [], harness := (true, "bb9be9eff2ac62d1eac6b4a8db1c289b6f655ede84a6312588a93e4a03da1322"), looks := false }, kinds := [], alts := [], laidByText := true, laidKinds := [.data], laidTests := true, laidLooks := .later }
def MatchHitsUptoCardSaid : Prop := Claim7.holds Tryd.pinned (.plain (OpenSpec.upto matchHitsSpec)) matchHitsUptoCard

/-- THE SECOND FORM's CARD OF 'carrefourlaw04.HeadWiths'. -/
def headWithsUptoCard : Claim7 := { stood := { row := headWithsUptoRow, standIns := [], harness := (true, "bb9be9eff2ac62d1eac6b4a8db1c289b6f655ede84a6312588a93e4a03da1322"), looks := false }, kinds := [], alts := [], laidByText := true, laidKinds := [.data], laidTests := true, laidLooks := .later }
def HeadWithsUptoCardSaid : Prop := Claim7.holds Tryd.pinned (.plain (OpenSpec.upto headWithsSpec)) headWithsUptoCard

/-- THE SECOND FORM's CARD OF 'carrefourlaw15.MatchMakes'. -/
def matchMakesUptoCard : Claim7 := { stood := { row := matchMakesUptoRow, standIns := [], harness := (true, "bb9be9eff2ac62d1eac6b4a8db1c289b6f655ede84a6312588a93e4a03da1322"), looks := false }, kinds := [], alts := [], laidByText := true, laidKinds := [.data], laidTests := true, laidLooks := .later }
def MatchMakesUptoCardSaid : Prop := Claim7.holds Tryd.pinned (.plain (OpenSpec.upto matchMakesSpec)) matchMakesUptoCard

/-- THE SECOND FORM's CARD OF 'carrefourlaw15.MatchNets'. -/
def matchNetsUptoCard : Claim7 := { stood := { row := matchNetsUptoRow, standIns := [], harness := (true, "bb9be9eff2ac62d1eac6b4a8db1c289b6f655ede84a6312588a93e4a03da1322"), looks := false }, kinds := [], alts := [], laidByText := true, laidKinds := [.data], laidTests := true, laidLooks := .later }
def MatchNetsUptoCardSaid : Prop := Claim7.holds Tryd.pinned (.plain (OpenSpec.upto matchNetsSpec)) matchNetsUptoCard

/-- THE SECOND FORM's CARD OF 'carrefourlaw15.MatchAnds'. -/
def matchAndsUptoCard : Claim7 := { stood := { row := matchAndsUptoRow, standIns := [], harness := (true, "bb9be9eff2ac62d1eac6b4a8db1c289b6f655ede84a6312588a93e4a03da1322"), looks := false }, kinds := [], alts := [], laidByText := true, laidKinds := [.data], laidTests := true, laidLooks := .later }
def MatchAndsUptoCardSaid : Prop := Claim7.holds Tryd.pinned (.plain (OpenSpec.upto matchAndsSpec)) matchAndsUptoCard
end Rows
end Go.Proofs.YtgoplihimajjkaaDoor
