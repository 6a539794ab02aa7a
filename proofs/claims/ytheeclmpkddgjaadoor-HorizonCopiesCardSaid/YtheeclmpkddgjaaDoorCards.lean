/-
  DERIVED. GIVEN WITH THE SEED: THE CARDS: each row of YtheeclmpkddgjaaDoorRows.lean that lists a variable, with what it lists TIED to the program's text (the seventh form; the later family's looks); each row that meets fmt, with fmt's text TOLD by the authors' own Lean function (tested against real Go, not proved from fmt's source: count such statements apart). THE CARD IS WHAT COUNTS. Prove the row's statement (the work); the ties are given (YtheeclmpkddgjaaDoorTie.lean); close each card by the builder's one call (the guide's Derived/Test/ToyasCard.lean, 'card_holds'). Laid BY PROGRAM, IN A SANDBOX (cutbox-door.mjs). By AI agents, Wed Nov 11 2026. No macro, syntax, notation, axiom, sorry.
-/
import Derived.Test.YtheeclmpkddgjaaDoorRows
import GoSem.ClaimSeven
namespace Go.Proofs.YtheeclmpkddgjaaDoor
namespace Rows

/-- THE TIED CARD OF 'consortlaw02.SetLists'. -/
def setListsCard : Claim7 := { stood := { row := setListsRow, standIns := [], harness := (true, "afae8ee430095465c43430df50aa696ba559713f148a317885c831e676080623"), looks := true }, kinds := [], alts := [], laidByText := true, laidKinds := [.data], laidTests := true, laidLooks := .later }
def SetListsCardSaid : Prop := Claim7.holds Tryd.pinned (.plain (OpenSpec.ofChange setListsSpec)) setListsCard

/-- THE TIED CARD OF 'consortlaw02.SetMost'. -/
def setMostCard : Claim7 := { stood := { row := setMostRow, standIns := [], harness := (true, "afae8ee430095465c43430df50aa696ba559713f148a317885c831e676080623"), looks := true }, kinds := [], alts := [], laidByText := true, laidKinds := [.data], laidTests := true, laidLooks := .later }
def SetMostCardSaid : Prop := Claim7.holds Tryd.pinned (.plain (OpenSpec.ofChange setMostSpec)) setMostCard

/-- THE TIED CARD OF 'consortlaw02.SetParts'. -/
def setPartsCard : Claim7 := { stood := { row := setPartsRow, standIns := [], harness := (true, "afae8ee430095465c43430df50aa696ba559713f148a317885c831e676080623"), looks := true }, kinds := [], alts := [], laidByText := true, laidKinds := [.data], laidTests := true, laidLooks := .later }
def SetPartsCardSaid : Prop := Claim7.holds Tryd.pinned (.plain (OpenSpec.ofChange setPartsSpec)) setPartsCard

/-- THE TIED CARD OF 'consortlaw02.SetAll'. -/
def setAllCard : Claim7 := { stood := { row := setAllRow, standIns := [], harness := (true, "afae8ee430095465c43430df50aa696ba559713f148a317885c831e676080623"), looks := true }, kinds := [], alts := [], laidByText := true, laidKinds := [.data], laidTests := true, laidLooks := .later }
def SetAllCardSaid : Prop := Claim7.holds Tryd.pinned (.plain (OpenSpec.ofChange setAllSpec)) setAllCard

/-- THE TIED CARD OF 'consortlaw02.SetBack'. -/
def setBackCard : Claim7 := { stood := { row := setBackRow, standIns := [], harness := (true, "afae8ee430095465c43430df50aa696ba559713f148a317885c831e676080623"), looks := true }, kinds := [], alts := [], laidByText := true, laidKinds := [.data], laidTests := true, laidLooks := .later }
def SetBackCardSaid : Prop := Claim7.holds Tryd.pinned (.plain (OpenSpec.ofChange setBackSpec)) setBackCard

/-- THE TIED CARD OF 'consortlaw02.SetTells'. -/
def setTellsCard : Claim7 := { stood := { row := setTellsRow, standIns := [], harness := (true, "afae8ee430095465c43430df50aa696ba559713f148a317885c831e676080623"), looks := true }, kinds := [], alts := [], laidByText := true, laidKinds := [.data], laidTests := true, laidLooks := .later }
def SetTellsCardSaid : Prop := Claim7.holds Tryd.pinned (.plain (OpenSpec.ofChange setTellsSpec)) setTellsCard

/-- THE TIED CARD OF 'consortlaw21.NamesTell'. -/
def namesTellCard : Claim7 := { stood := { row := namesTellRow, standIns := [], harness := (true, "afae8ee430095465c43430df50aa696ba559713f148a317885c831e676080623"), looks := true }, kinds := [], alts := [], laidByText := true, laidKinds := [.data], laidTests := true, laidLooks := .later }
def NamesTellCardSaid : Prop := Claim7.holds Tryd.pinned (.plain (OpenSpec.ofChange namesTellSpec)) namesTellCard

/-- THE TIED CARD OF 'consortlaw21.NamesOne'. -/
def namesOneCard : Claim7 := { stood := { row := namesOneRow, standIns := [], harness := (true, "afae8ee430095465c43430df50aa696ba559713f148a317885c831e676080623"), looks := true }, kinds := [], alts := [], laidByText := true, laidKinds := [.data], laidTests := true, laidLooks := .later }
def NamesOneCardSaid : Prop := Claim7.holds Tryd.pinned (.plain (OpenSpec.ofChange namesOneSpec)) namesOneCard

/-- THE TIED CARD OF 'consortlaw21.NamesKeep'. -/
def namesKeepCard : Claim7 := { stood := { row := namesKeepRow, standIns := [], harness := (true, "afae8ee430095465c43430df50aa696ba559713f148a317885c831e676080623"), looks := true }, kinds := [], alts := [], laidByText := true, laidKinds := [.data], laidTests := true, laidLooks := .later }
def NamesKeepCardSaid : Prop := Claim7.holds Tryd.pinned (.plain (OpenSpec.ofChange namesKeepSpec)) namesKeepCard

/-- THE TIED CARD OF 'consortlaw13.HorizonRises'. -/
def horizonRisesCard : Claim7 := { stood := { row := horizonRisesRow, standIns := [], harness := (true, "afae8ee430095465c43430df50aa696ba559713f148a317885c831e676080623"), looks := true }, kinds := [], alts := [], laidByText := true, laidKinds := [.data], laidTests := true, laidLooks := .later }
def HorizonRisesCardSaid : Prop := Claim7.holds Tryd.pinned (.plain (OpenSpec.ofChange horizonRisesSpec)) horizonRisesCard

/-- THE TIED CARD OF 'consortlaw13.HorizonWaits'. -/
def horizonWaitsCard : Claim7 := { stood := { row := horizonWaitsRow, standIns := [], harness := (true, "afae8ee430095465c43430df50aa696ba559713f148a317885c831e676080623"), looks := true }, kinds := [], alts := [], laidByText := true, laidKinds := [.data], laidTests := true, laidLooks := .later }
def HorizonWaitsCardSaid : Prop := Claim7.holds Tryd.pinned (.plain (OpenSpec.ofChange horizonWaitsSpec)) horizonWaitsCard

/-- THE TIED CARD OF 'consortlaw13.HorizonMore'. -/
def horizonMoreCard : Claim7 := { stood := { row := horizonMoreRow, standIns := [], harness := (true, "afae8ee430095465c43430df50aa696ba559713f148a317885c831e676080623"), looks := true }, kinds := [], alts := [], laidByText := true, laidKinds := [.data], laidTests := true, laidLooks := .later }
def HorizonMoreCardSaid : Prop := Claim7.holds Tryd.pinned (.plain (OpenSpec.ofChange horizonMoreSpec)) horizonMoreCard

/-- THE TIED CARD OF 'consortlaw13.HorizonCopies'. -/
def horizonCopiesCard : Claim7 := { stood := { row := horizonCopiesRow, standIns := [], harness := (true, "afae8ee430095465c43430df50aa696ba559713f148a317885c831e676080623"), looks := true }, kinds := [], alts := [], laidByText := true, laidKinds := [.data], laidTests := true, laidLooks := .later }
def HorizonCopiesCardSaid : Prop := Claim7.holds Tryd.pinned (.plain (OpenSpec.ofChange horizonCopiesSpec)) horizonCopiesCard

/-- THE TIED CARD OF 'consortlaw20.FilterOne'. -/
def filterOneCard : Claim7 := { stood := { row := filterOneRow, standIns := [], harness := (true, "afae8ee430095465c43430df50aa696ba559713f148a317885c831e676080623"), looks := true }, kinds := [], alts := [], laidByText := true, laidKinds := [.data], laidTests := true, laidLooks := .later }
def FilterOneCardSaid : Prop := Claim7.holds Tryd.pinned (.plain (OpenSpec.ofChange filterOneSpec)) filterOneCard

/-- THE TIED CARD OF 'consortlaw20.FilterLive'. -/
def filterLiveCard : Claim7 := { stood := { row := filterLiveRow, standIns := [], harness := (true, "afae8ee430095465c43430df50aa696ba559713f148a317885c831e676080623"), looks := true }, kinds := [], alts := [], laidByText := true, laidKinds := [.data], laidTests := true, laidLooks := .later }
def FilterLiveCardSaid : Prop := Claim7.holds Tryd.pinned (.plain (OpenSpec.ofChange filterLiveSpec)) filterLiveCard

/-- THE TIED CARD OF 'consortlaw20.FilterCopies'. -/
def filterCopiesCard : Claim7 := { stood := { row := filterCopiesRow, standIns := [], harness := (true, "afae8ee430095465c43430df50aa696ba559713f148a317885c831e676080623"), looks := true }, kinds := [], alts := [], laidByText := true, laidKinds := [.data], laidTests := true, laidLooks := .later }
def FilterCopiesCardSaid : Prop := Claim7.holds Tryd.pinned (.plain (OpenSpec.ofChange filterCopiesSpec)) filterCopiesCard

/-- THE SECOND FORM's CARD OF 'consortlaw02.SetLists'. -/
def setListsUptoCard : Claim7 := { stood := { row := setListsUptoRow, standIns := [], harness := (true, "afae8ee430095465c43430df50aa696ba559713f148a317885c831e676080623"), looks := true }, kinds := [], alts := [], laidByText := true, laidKinds := [.data], laidTests := true, laidLooks := .later }
def SetListsUptoCardSaid : Prop := Claim7.holds Tryd.pinned (.plain (OpenSpec.upto setListsSpec)) setListsUptoCard

/-- THE SECOND FORM's CARD OF 'consortlaw02.SetMost'. -/
def setMostUptoCard : Claim7 := { stood := { row := setMostUptoRow, standIns := [], harness := (true, "afae8ee430095465c43430df50aa696ba559713f148a317885c831e676080623"), looks := true }, kinds := [], alts := [], laidByText := true, laidKinds := [.data], laidTests := true, laidLooks := .later }
def SetMostUptoCardSaid : Prop := Claim7.holds Tryd.pinned (.plain (OpenSpec.upto setMostSpec)) setMostUptoCard

/-- THE SECOND FORM's CARD OF 'consortlaw02.SetParts'. -/
def setPartsUptoCard : Claim7 := { stood := { row := setPartsUptoRow, standIns := [], harness := (true, "afae8ee430095465c43430df50aa696ba559713f148a317885c831e676080623"), looks := true }, kinds := [], alts := [], laidByText := true, laidKinds := [.data], laidTests := true, laidLooks := .later }
def SetPartsUptoCardSaid : Prop := Claim7.holds Tryd.pinned (.plain (OpenSpec.upto setPartsSpec)) setPartsUptoCard

/-- THE SECOND FORM's CARD OF 'consortlaw02.SetAll'. -/
def setAllUptoCard : Claim7 := { stood := { row := setAllUptoRow, standIns := [], harness := (true, "afae8ee430095465c43430df50aa696ba559713f148a317885c831e676080623"), looks := true }, kinds := [], alts := [], laidByText := true, laidKinds := [.data], laidTests := true, laidLooks := .later }
def SetAllUptoCardSaid : Prop := Claim7.holds Tryd.pinned (.plain (OpenSpec.upto setAllSpec)) setAllUptoCard

/-- THE SECOND FORM's CARD OF 'consortlaw02.SetBack'. -/
def setBackUptoCard : Claim7 := { stood := { row := setBackUptoRow, standIns := [], harness := (true, "afae8ee430095465c43430df50aa696ba559713f148a317885c831e676080623"), looks := true }, kinds := [], alts := [], laidByText := true, laidKinds := [.data], laidTests := true, laidLooks := .later }
def SetBackUptoCardSaid : Prop := Claim7.holds Tryd.pinned (.plain (OpenSpec.upto setBackSpec)) setBackUptoCard

/-- THE SECOND FORM's CARD OF 'consortlaw02.SetTells'. -/
def setTellsUptoCard : Claim7 := { stood := { row := setTellsUptoRow, standIns := [], harness := (true, "afae8ee430095465c43430df50aa696ba559713f148a317885c831e676080623"), looks := true }, kinds := [], alts := [], laidByText := true, laidKinds := [.data], laidTests := true, laidLooks := .later }
def SetTellsUptoCardSaid : Prop := Claim7.holds Tryd.pinned (.plain (OpenSpec.upto setTellsSpec)) setTellsUptoCard

/-- THE SECOND FORM's CARD OF 'consortlaw21.NamesTell'. -/
def namesTellUptoCard : Claim7 := { stood := { row := namesTellUptoRow, standIns := [], harness := (true, "afae8ee430095465c43430df50aa696ba559713f148a317885c831e676080623"), looks := true }, kinds := [], alts := [], laidByText := true, laidKinds := [.data], laidTests := true, laidLooks := .later }
def NamesTellUptoCardSaid : Prop := Claim7.holds Tryd.pinned (.plain (OpenSpec.upto namesTellSpec)) namesTellUptoCard

/-- THE SECOND FORM's CARD OF 'consortlaw21.NamesOne'. -/
def namesOneUptoCard : Claim7 := { stood := { row := namesOneUptoRow, standIns := [], harness := (true, "afae8ee430095465c43430df50aa696ba559713f148a317885c831e676080623"), looks := true }, kinds := [], alts := [], laidByText := true, laidKinds := [.data], laidTests := true, laidLooks := .later }
def NamesOneUptoCardSaid : Prop := Claim7.holds Tryd.pinned (.plain (OpenSpec.upto namesOneSpec)) namesOneUptoCard

/-- THE SECOND FORM's CARD OF 'consortlaw21.NamesKeep'. -/
def namesKeepUptoCard : Claim7 := { stood := { row := namesKeepUptoRow, standIns := [], harness := (true, "afae8ee430095465c43430df50aa696ba559713f148a317885c831e676080623"), looks := true }, kinds := [], alts := [], laidByText := true, laidKinds := [.data], laidTests := true, laidLooks := .later }
def NamesKeepUptoCardSaid : Prop := Claim7.holds Tryd.pinned (.plain (OpenSpec.upto namesKeepSpec)) namesKeepUptoCard

/-- THE SECOND FORM's CARD OF 'consortlaw13.HorizonRises'. -/
def horizonRisesUptoCard : Claim7 := { stood := { row := horizonRisesUptoRow, standIns := [], harness := (true, "afae8ee430095465c43430df50aa696ba559713f148a317885c831e676080623"), looks := true }, kinds := [], alts := [], laidByText := true, laidKinds := [.data], laidTests := true, laidLooks := .later }
def HorizonRisesUptoCardSaid : Prop := Claim7.holds Tryd.pinned (.plain (OpenSpec.upto horizonRisesSpec)) horizonRisesUptoCard

/-- THE SECOND FORM's CARD OF 'consortlaw13.HorizonWaits'. -/
def horizonWaitsUptoCard : Claim7 := { stood := { row := horizonWaitsUptoRow, standIns := [], harness := (true, "afae8ee430095465c43430df50aa696ba559713f148a317885c831e676080623"), looks := true }, kinds := [], alts := [], laidByText := true, laidKinds := [.data], laidTests := true, laidLooks := .later }
def HorizonWaitsUptoCardSaid : Prop := Claim7.holds Tryd.pinned (.plain (OpenSpec.upto horizonWaitsSpec)) horizonWaitsUptoCard

/-- THE SECOND FORM's CARD OF 'consortlaw13.HorizonMore'. -/
def horizonMoreUptoCard : Claim7 := { stood := { row := horizonMoreUptoRow, standIns := [], harness := (true, "afae8ee430095465c43430df50aa696ba559713f148a317885c831e676080623"), looks := true }, kinds := [], alts := [], laidByText := true, laidKinds := [.data], laidTests := true, laidLooks := .later }
def HorizonMoreUptoCardSaid : Prop := Claim7.holds Tryd.pinned (.plain (OpenSpec.upto horizonMoreSpec)) horizonMoreUptoCard

/-- THE SECOND FORM's CARD OF 'consortlaw13.HorizonCopies'. -/
def horizonCopiesUptoCard : Claim7 := { stood := { row := horizonCopiesUptoRow, standIns := [], harness := (true, "afae8ee430095465c43430df50aa696ba559713f148a317885c831e676080623"), looks := true }, kinds := [], alts := [], laidByText := true, laidKinds := [.data], laidTests := true, laidLooks := .later }
def HorizonCopiesUptoCardSaid : Prop := Claim7.holds Tryd.pinned (.plain (OpenSpec.upto horizonCopiesSpec)) horizonCopiesUptoCard

/-- THE SECOND FORM's CARD OF 'consortlaw20.FilterOne'. -/
def filterOneUptoCard : Claim7 := { stood := { row := filterOneUptoRow, standIns := [], harness := (true, "afae8ee430095465c43430df50aa696ba559713f148a317885c831e676080623"), looks := true }, kinds := [], alts := [], laidByText := true, laidKinds := [.data], laidTests := true, laidLooks := .later }
def FilterOneUptoCardSaid : Prop := Claim7.holds Tryd.pinned (.plain (OpenSpec.upto filterOneSpec)) filterOneUptoCard

/-- THE SECOND FORM's CARD OF 'consortlaw20.FilterLive'. -/
def filterLiveUptoCard : Claim7 := { stood := { row := filterLiveUptoRow, standIns := [], harness := (true, "afae8ee430095465c43430df50aa696ba559713f148a317885c831e676080623"), looks := true }, kinds := [], alts := [], laidByText := true, laidKinds := [.data], laidTests := true, laidLooks := .later }
def FilterLiveUptoCardSaid : Prop := Claim7.holds Tryd.pinned (.plain (OpenSpec.upto filterLiveSpec)) filterLiveUptoCard

/-- THE SECOND FORM's CARD OF 'consortlaw20.FilterCopies'. -/
def filterCopiesUptoCard : Claim7 := { stood := { row := filterCopiesUptoRow, standIns := [], harness := (true, "afae8ee430095465c43430df50aa696ba559713f148a317885c831e676080623"), looks := true }, kinds := [], alts := [], laidByText := true, laidKinds := [.data], laidTests := true, laidLooks := .later }
def FilterCopiesUptoCardSaid : Prop := Claim7.holds Tryd.pinned (.plain (OpenSpec.upto filterCopiesSpec)) filterCopiesUptoCard
end Rows
end Go.Proofs.YtheeclmpkddgjaaDoor
