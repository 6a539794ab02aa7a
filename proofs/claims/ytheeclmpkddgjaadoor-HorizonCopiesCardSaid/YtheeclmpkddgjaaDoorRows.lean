/-
  NARROWER THAN 'FOR EVERY INPUT', by the rows' own cells (each row's printed sentence says how): SetLists: laid · SetMost: laid · SetParts: laid · SetAll: laid · SetBack: laid · SetTells: laid · NamesTell: laid · NamesOne: laid · NamesKeep: laid · HorizonRises: laid · HorizonWaits: laid · HorizonMore: laid · HorizonCopies: laid · FilterOne: laid · FilterLive: laid · FilterCopies: laid.
  DERIVED. THE GIVEN ROWS OF THIS SEAT. 16 by the template 'for every input the law returns true; each argument reads behind the call as it read before'; 0 by the template 'total and deterministic' (their statements: YtheeclmpkddgjaaDoorTotals.lean).
  GIVEN WITH THE SEED: the statements are not yours to turn. If you find one false, say at which input.
  Laid BY PROGRAM, IN A SANDBOX (cutbox-rows.mjs): the forced cells as the released guide's own fill.sh prints them over the translation b3bf00f52d10cd76… (all of the seat's roots in one cut). By AI agents, Wed Nov 11 2026. No macro, syntax, notation, axiom, sorry.
-/
import Derived.Test.YtheeclmpkddgjaaDoorChecked
import GoSem.Claim
import GoSem.ClaimJoined
import GoSem.ClaimMapViews
import Derived.JoinedTies
import Derived.KernelRfl
namespace Go.Proofs.YtheeclmpkddgjaaDoor
/- THE CELL 'sum', in the pinned program and in every row, IS THE sha256 OF THE DUMP (.gsa) THAT YtheeclmpkddgjaaDoorProg.lean LOADS. Nothing in Lean hashes anything: it is a label: what it is worth is what the hold of that sum in a sandbox is worth. -/
noncomputable def Tryd.pinned : Pinned := { name := "ytheeclmpkddgjaadoor", sum := "b3bf00f52d10cd7636767177f53dc9295660dbf6930aa932371657489bc09818", checked := Tryd.checked }
namespace Rows
def none {H : Type} : Left H := { results := [], args := [] }

/- WHAT THE LISTED PACKAGE-LEVEL VARIABLES READ AS WHEN THE CALL BEGINS. Each datum BY PROGRAM (the guide's laid-datum.mjs) off the statement by which the dump's own 'gosem.cut.vars' lays the variable. In a bare row this is a premise. The card (YtheeclmpkddgjaaDoorCards.lean) ties it to the program's text. -/
def laid_math_bits_deBruijn64tab {H : Type} : DataW H := .agg [.lit (.int .u8 0), .lit (.int .u8 1), .lit (.int .u8 56), .lit (.int .u8 2), .lit (.int .u8 57), .lit (.int .u8 49), .lit (.int .u8 28), .lit (.int .u8 3), .lit (.int .u8 61), .lit (.int .u8 58), .lit (.int .u8 42), .lit (.int .u8 50), .lit (.int .u8 38), .lit (.int .u8 29), .lit (.int .u8 17), .lit (.int .u8 4), .lit (.int .u8 62), .lit (.int .u8 47), .lit (.int .u8 59), .lit (.int .u8 36), .lit (.int .u8 45), .lit (.int .u8 43), .lit (.int .u8 51), .lit (.int .u8 22), .lit (.int .u8 53), .lit (.int .u8 39), .lit (.int .u8 33), .lit (.int .u8 30), .lit (.int .u8 24), .lit (.int .u8 18), .lit (.int .u8 12), .lit (.int .u8 5), .lit (.int .u8 63), .lit (.int .u8 55), .lit (.int .u8 48), .lit (.int .u8 27), .lit (.int .u8 60), .lit (.int .u8 41), .lit (.int .u8 37), .lit (.int .u8 16), .lit (.int .u8 46), .lit (.int .u8 35), .lit (.int .u8 44), .lit (.int .u8 21), .lit (.int .u8 52), .lit (.int .u8 32), .lit (.int .u8 23), .lit (.int .u8 11), .lit (.int .u8 54), .lit (.int .u8 26), .lit (.int .u8 40), .lit (.int .u8 15), .lit (.int .u8 34), .lit (.int .u8 20), .lit (.int .u8 31), .lit (.int .u8 10), .lit (.int .u8 25), .lit (.int .u8 14), .lit (.int .u8 19), .lit (.int .u8 9), .lit (.int .u8 13), .lit (.int .u8 8), .lit (.int .u8 7), .lit (.int .u8 6)]

/-- 'consortlaw02.SetLists': WHATEVER THE INPUT: true; the input reads as it did. -/
def setListsSpec : ChangeSpec := { name := "setLists", fn := fun _ => fun
  | [d1, d2] => { results := [.lit (.bool true)], args := [d1, d2] }
  | _ => none }
def setListsRow : OpenClaim := { program := "ytheeclmpkddgjaadoor", sum := "b3bf00f52d10cd7636767177f53dc9295660dbf6930aa932371657489bc09818", func := "consort/consortlaw02.SetLists", spec := "setLists", named := ["math/bits.deBruijn64tab"], apart := false, laid := [("math/bits.deBruijn64tab", laid_math_bits_deBruijn64tab)] }
def SetListsSaid : Prop := setListsRow.holds Tryd.pinned (OpenSpec.ofChange setListsSpec)

/-- ITS FALSE NEIGHBOUR: 'it returns false'. Refute it at one input. -/
def setListsWrong : ChangeSpec := { name := "setLists", fn := fun _ => fun
  | [d1, d2] => { results := [.lit (.bool false)], args := [d1, d2] }
  | _ => none }
def SetListsWrongFalsely : Prop := setListsRow.holds Tryd.pinned (OpenSpec.ofChange setListsWrong)

/-- 'consortlaw02.SetMost': WHATEVER THE INPUT: true; the input reads as it did. -/
def setMostSpec : ChangeSpec := { name := "setMost", fn := fun _ => fun
  | [d1, d2, d3] => { results := [.lit (.bool true)], args := [d1, d2, d3] }
  | _ => none }
def setMostRow : OpenClaim := { program := "ytheeclmpkddgjaadoor", sum := "b3bf00f52d10cd7636767177f53dc9295660dbf6930aa932371657489bc09818", func := "consort/consortlaw02.SetMost", spec := "setMost", named := ["math/bits.deBruijn64tab"], apart := false, laid := [("math/bits.deBruijn64tab", laid_math_bits_deBruijn64tab)] }
def SetMostSaid : Prop := setMostRow.holds Tryd.pinned (OpenSpec.ofChange setMostSpec)

/-- ITS FALSE NEIGHBOUR: 'it returns false'. Refute it at one input. -/
def setMostWrong : ChangeSpec := { name := "setMost", fn := fun _ => fun
  | [d1, d2, d3] => { results := [.lit (.bool false)], args := [d1, d2, d3] }
  | _ => none }
def SetMostWrongFalsely : Prop := setMostRow.holds Tryd.pinned (OpenSpec.ofChange setMostWrong)

/-- 'consortlaw02.SetParts': WHATEVER THE INPUT: true; the input reads as it did. -/
def setPartsSpec : ChangeSpec := { name := "setParts", fn := fun _ => fun
  | [d1, d2] => { results := [.lit (.bool true)], args := [d1, d2] }
  | _ => none }
def setPartsRow : OpenClaim := { program := "ytheeclmpkddgjaadoor", sum := "b3bf00f52d10cd7636767177f53dc9295660dbf6930aa932371657489bc09818", func := "consort/consortlaw02.SetParts", spec := "setParts", named := ["math/bits.deBruijn64tab"], apart := false, laid := [("math/bits.deBruijn64tab", laid_math_bits_deBruijn64tab)] }
def SetPartsSaid : Prop := setPartsRow.holds Tryd.pinned (OpenSpec.ofChange setPartsSpec)

/-- ITS FALSE NEIGHBOUR: 'it returns false'. Refute it at one input. -/
def setPartsWrong : ChangeSpec := { name := "setParts", fn := fun _ => fun
  | [d1, d2] => { results := [.lit (.bool false)], args := [d1, d2] }
  | _ => none }
def SetPartsWrongFalsely : Prop := setPartsRow.holds Tryd.pinned (OpenSpec.ofChange setPartsWrong)

/-- 'consortlaw02.SetAll': WHATEVER THE INPUT: true; the input reads as it did. -/
def setAllSpec : ChangeSpec := { name := "setAll", fn := fun _ => fun
  | [d] => { results := [.lit (.bool true)], args := [d] }
  | _ => none }
def setAllRow : OpenClaim := { program := "ytheeclmpkddgjaadoor", sum := "b3bf00f52d10cd7636767177f53dc9295660dbf6930aa932371657489bc09818", func := "consort/consortlaw02.SetAll", spec := "setAll", named := ["math/bits.deBruijn64tab"], apart := false, laid := [("math/bits.deBruijn64tab", laid_math_bits_deBruijn64tab)] }
def SetAllSaid : Prop := setAllRow.holds Tryd.pinned (OpenSpec.ofChange setAllSpec)

/-- ITS FALSE NEIGHBOUR: 'it returns false'. Refute it at one input. -/
def setAllWrong : ChangeSpec := { name := "setAll", fn := fun _ => fun
  | [d] => { results := [.lit (.bool false)], args := [d] }
  | _ => none }
def SetAllWrongFalsely : Prop := setAllRow.holds Tryd.pinned (OpenSpec.ofChange setAllWrong)

/-- 'consortlaw02.SetBack': WHATEVER THE INPUT: true; the input reads as it did. -/
def setBackSpec : ChangeSpec := { name := "setBack", fn := fun _ => fun
  | [d] => { results := [.lit (.bool true)], args := [d] }
  | _ => none }
def setBackRow : OpenClaim := { program := "ytheeclmpkddgjaadoor", sum := "b3bf00f52d10cd7636767177f53dc9295660dbf6930aa932371657489bc09818", func := "consort/consortlaw02.SetBack", spec := "setBack", named := ["math/bits.deBruijn64tab"], apart := false, laid := [("math/bits.deBruijn64tab", laid_math_bits_deBruijn64tab)] }
def SetBackSaid : Prop := setBackRow.holds Tryd.pinned (OpenSpec.ofChange setBackSpec)

/-- ITS FALSE NEIGHBOUR: 'it returns false'. Refute it at one input. -/
def setBackWrong : ChangeSpec := { name := "setBack", fn := fun _ => fun
  | [d] => { results := [.lit (.bool false)], args := [d] }
  | _ => none }
def SetBackWrongFalsely : Prop := setBackRow.holds Tryd.pinned (OpenSpec.ofChange setBackWrong)

/-- 'consortlaw02.SetTells': WHATEVER THE INPUT: true; the input reads as it did. -/
def setTellsSpec : ChangeSpec := { name := "setTells", fn := fun _ => fun
  | [d1, d2, d3] => { results := [.lit (.bool true)], args := [d1, d2, d3] }
  | _ => none }
def setTellsRow : OpenClaim := { program := "ytheeclmpkddgjaadoor", sum := "b3bf00f52d10cd7636767177f53dc9295660dbf6930aa932371657489bc09818", func := "consort/consortlaw02.SetTells", spec := "setTells", named := ["math/bits.deBruijn64tab"], apart := false, laid := [("math/bits.deBruijn64tab", laid_math_bits_deBruijn64tab)] }
def SetTellsSaid : Prop := setTellsRow.holds Tryd.pinned (OpenSpec.ofChange setTellsSpec)

/-- ITS FALSE NEIGHBOUR: 'it returns false'. Refute it at one input. -/
def setTellsWrong : ChangeSpec := { name := "setTells", fn := fun _ => fun
  | [d1, d2, d3] => { results := [.lit (.bool false)], args := [d1, d2, d3] }
  | _ => none }
def SetTellsWrongFalsely : Prop := setTellsRow.holds Tryd.pinned (OpenSpec.ofChange setTellsWrong)

/-- 'consortlaw21.NamesTell': WHATEVER THE INPUT: true; the input reads as it did. -/
def namesTellSpec : ChangeSpec := { name := "namesTell", fn := fun _ => fun
  | [d1, d2, d3, d4, d5, d6] => { results := [.lit (.bool true)], args := [d1, d2, d3, d4, d5, d6] }
  | _ => none }
def namesTellRow : OpenClaim := { program := "ytheeclmpkddgjaadoor", sum := "b3bf00f52d10cd7636767177f53dc9295660dbf6930aa932371657489bc09818", func := "consort/consortlaw21.NamesTell", spec := "namesTell", unfollowed := true, recurses := true, named := ["math/bits.deBruijn64tab"], apart := false, laid := [("math/bits.deBruijn64tab", laid_math_bits_deBruijn64tab)] }
def NamesTellSaid : Prop := namesTellRow.holds Tryd.pinned (OpenSpec.ofChange namesTellSpec)

/-- ITS FALSE NEIGHBOUR: 'it returns false'. Refute it at one input. -/
def namesTellWrong : ChangeSpec := { name := "namesTell", fn := fun _ => fun
  | [d1, d2, d3, d4, d5, d6] => { results := [.lit (.bool false)], args := [d1, d2, d3, d4, d5, d6] }
  | _ => none }
def NamesTellWrongFalsely : Prop := namesTellRow.holds Tryd.pinned (OpenSpec.ofChange namesTellWrong)

/-- 'consortlaw21.NamesOne': WHATEVER THE INPUT: true; the input reads as it did. -/
def namesOneSpec : ChangeSpec := { name := "namesOne", fn := fun _ => fun
  | [d1, d2, d3, d4, d5] => { results := [.lit (.bool true)], args := [d1, d2, d3, d4, d5] }
  | _ => none }
def namesOneRow : OpenClaim := { program := "ytheeclmpkddgjaadoor", sum := "b3bf00f52d10cd7636767177f53dc9295660dbf6930aa932371657489bc09818", func := "consort/consortlaw21.NamesOne", spec := "namesOne", unfollowed := true, recurses := true, named := ["math/bits.deBruijn64tab"], apart := false, laid := [("math/bits.deBruijn64tab", laid_math_bits_deBruijn64tab)] }
def NamesOneSaid : Prop := namesOneRow.holds Tryd.pinned (OpenSpec.ofChange namesOneSpec)

/-- ITS FALSE NEIGHBOUR: 'it returns false'. Refute it at one input. -/
def namesOneWrong : ChangeSpec := { name := "namesOne", fn := fun _ => fun
  | [d1, d2, d3, d4, d5] => { results := [.lit (.bool false)], args := [d1, d2, d3, d4, d5] }
  | _ => none }
def NamesOneWrongFalsely : Prop := namesOneRow.holds Tryd.pinned (OpenSpec.ofChange namesOneWrong)

/-- 'consortlaw21.NamesKeep': WHATEVER THE INPUT: true; the input reads as it did. -/
def namesKeepSpec : ChangeSpec := { name := "namesKeep", fn := fun _ => fun
  | [d1, d2, d3] => { results := [.lit (.bool true)], args := [d1, d2, d3] }
  | _ => none }
def namesKeepRow : OpenClaim := { program := "ytheeclmpkddgjaadoor", sum := "b3bf00f52d10cd7636767177f53dc9295660dbf6930aa932371657489bc09818", func := "consort/consortlaw21.NamesKeep", spec := "namesKeep", unfollowed := true, recurses := true, named := ["math/bits.deBruijn64tab"], apart := false, laid := [("math/bits.deBruijn64tab", laid_math_bits_deBruijn64tab)] }
def NamesKeepSaid : Prop := namesKeepRow.holds Tryd.pinned (OpenSpec.ofChange namesKeepSpec)

/-- ITS FALSE NEIGHBOUR: 'it returns false'. Refute it at one input. -/
def namesKeepWrong : ChangeSpec := { name := "namesKeep", fn := fun _ => fun
  | [d1, d2, d3] => { results := [.lit (.bool false)], args := [d1, d2, d3] }
  | _ => none }
def NamesKeepWrongFalsely : Prop := namesKeepRow.holds Tryd.pinned (OpenSpec.ofChange namesKeepWrong)

/-- 'consortlaw13.HorizonRises': WHATEVER THE INPUT: true; the input reads as it did. -/
def horizonRisesSpec : ChangeSpec := { name := "horizonRises", fn := fun _ => fun
  | [d1, d2, d3] => { results := [.lit (.bool true)], args := [d1, d2, d3] }
  | _ => none }
def horizonRisesRow : OpenClaim := { program := "ytheeclmpkddgjaadoor", sum := "b3bf00f52d10cd7636767177f53dc9295660dbf6930aa932371657489bc09818", func := "consort/consortlaw13.HorizonRises", spec := "horizonRises", unfollowed := true, recurses := true, named := ["math/bits.deBruijn64tab"], apart := false, laid := [("math/bits.deBruijn64tab", laid_math_bits_deBruijn64tab)] }
def HorizonRisesSaid : Prop := horizonRisesRow.holds Tryd.pinned (OpenSpec.ofChange horizonRisesSpec)

/-- ITS FALSE NEIGHBOUR: 'it returns false'. Refute it at one input. -/
def horizonRisesWrong : ChangeSpec := { name := "horizonRises", fn := fun _ => fun
  | [d1, d2, d3] => { results := [.lit (.bool false)], args := [d1, d2, d3] }
  | _ => none }
def HorizonRisesWrongFalsely : Prop := horizonRisesRow.holds Tryd.pinned (OpenSpec.ofChange horizonRisesWrong)

/-- 'consortlaw13.HorizonWaits': WHATEVER THE INPUT: true; the input reads as it did. -/
def horizonWaitsSpec : ChangeSpec := { name := "horizonWaits", fn := fun _ => fun
  | [d1, d2, d3] => { results := [.lit (.bool true)], args := [d1, d2, d3] }
  | _ => none }
def horizonWaitsRow : OpenClaim := { program := "ytheeclmpkddgjaadoor", sum := "b3bf00f52d10cd7636767177f53dc9295660dbf6930aa932371657489bc09818", func := "consort/consortlaw13.HorizonWaits", spec := "horizonWaits", unfollowed := true, recurses := true, named := ["math/bits.deBruijn64tab"], apart := false, laid := [("math/bits.deBruijn64tab", laid_math_bits_deBruijn64tab)] }
def HorizonWaitsSaid : Prop := horizonWaitsRow.holds Tryd.pinned (OpenSpec.ofChange horizonWaitsSpec)

/-- ITS FALSE NEIGHBOUR: 'it returns false'. Refute it at one input. -/
def horizonWaitsWrong : ChangeSpec := { name := "horizonWaits", fn := fun _ => fun
  | [d1, d2, d3] => { results := [.lit (.bool false)], args := [d1, d2, d3] }
  | _ => none }
def HorizonWaitsWrongFalsely : Prop := horizonWaitsRow.holds Tryd.pinned (OpenSpec.ofChange horizonWaitsWrong)

/-- 'consortlaw13.HorizonMore': WHATEVER THE INPUT: true; the input reads as it did. -/
def horizonMoreSpec : ChangeSpec := { name := "horizonMore", fn := fun _ => fun
  | [d1, d2, d3] => { results := [.lit (.bool true)], args := [d1, d2, d3] }
  | _ => none }
def horizonMoreRow : OpenClaim := { program := "ytheeclmpkddgjaadoor", sum := "b3bf00f52d10cd7636767177f53dc9295660dbf6930aa932371657489bc09818", func := "consort/consortlaw13.HorizonMore", spec := "horizonMore", unfollowed := true, recurses := true, named := ["math/bits.deBruijn64tab"], apart := false, laid := [("math/bits.deBruijn64tab", laid_math_bits_deBruijn64tab)] }
def HorizonMoreSaid : Prop := horizonMoreRow.holds Tryd.pinned (OpenSpec.ofChange horizonMoreSpec)

/-- ITS FALSE NEIGHBOUR: 'it returns false'. Refute it at one input. -/
def horizonMoreWrong : ChangeSpec := { name := "horizonMore", fn := fun _ => fun
  | [d1, d2, d3] => { results := [.lit (.bool false)], args := [d1, d2, d3] }
  | _ => none }
def HorizonMoreWrongFalsely : Prop := horizonMoreRow.holds Tryd.pinned (OpenSpec.ofChange horizonMoreWrong)

/-- 'consortlaw13.HorizonCopies': WHATEVER THE INPUT: true; the input reads as it did. -/
def horizonCopiesSpec : ChangeSpec := { name := "horizonCopies", fn := fun _ => fun
  | [d1, d2, d3] => { results := [.lit (.bool true)], args := [d1, d2, d3] }
  | _ => none }
def horizonCopiesRow : OpenClaim := { program := "ytheeclmpkddgjaadoor", sum := "b3bf00f52d10cd7636767177f53dc9295660dbf6930aa932371657489bc09818", func := "consort/consortlaw13.HorizonCopies", spec := "horizonCopies", unfollowed := true, recurses := true, named := ["math/bits.deBruijn64tab"], apart := false, laid := [("math/bits.deBruijn64tab", laid_math_bits_deBruijn64tab)] }
def HorizonCopiesSaid : Prop := horizonCopiesRow.holds Tryd.pinned (OpenSpec.ofChange horizonCopiesSpec)

/-- ITS FALSE NEIGHBOUR: 'it returns false'. Refute it at one input. -/
def horizonCopiesWrong : ChangeSpec := { name := "horizonCopies", fn := fun _ => fun
  | [d1, d2, d3] => { results := [.lit (.bool false)], args := [d1, d2, d3] }
  | _ => none }
def HorizonCopiesWrongFalsely : Prop := horizonCopiesRow.holds Tryd.pinned (OpenSpec.ofChange horizonCopiesWrong)

/-- 'consortlaw20.FilterOne': WHATEVER THE INPUT: true; the input reads as it did. -/
def filterOneSpec : ChangeSpec := { name := "filterOne", fn := fun _ => fun
  | [d1, d2] => { results := [.lit (.bool true)], args := [d1, d2] }
  | _ => none }
def filterOneRow : OpenClaim := { program := "ytheeclmpkddgjaadoor", sum := "b3bf00f52d10cd7636767177f53dc9295660dbf6930aa932371657489bc09818", func := "consort/consortlaw20.FilterOne", spec := "filterOne", unfollowed := true, recurses := true, named := ["math/bits.deBruijn64tab"], apart := false, laid := [("math/bits.deBruijn64tab", laid_math_bits_deBruijn64tab)] }
def FilterOneSaid : Prop := filterOneRow.holds Tryd.pinned (OpenSpec.ofChange filterOneSpec)

/-- ITS FALSE NEIGHBOUR: 'it returns false'. Refute it at one input. -/
def filterOneWrong : ChangeSpec := { name := "filterOne", fn := fun _ => fun
  | [d1, d2] => { results := [.lit (.bool false)], args := [d1, d2] }
  | _ => none }
def FilterOneWrongFalsely : Prop := filterOneRow.holds Tryd.pinned (OpenSpec.ofChange filterOneWrong)

/-- 'consortlaw20.FilterLive': WHATEVER THE INPUT: true; the input reads as it did. -/
def filterLiveSpec : ChangeSpec := { name := "filterLive", fn := fun _ => fun
  | [d1, d2] => { results := [.lit (.bool true)], args := [d1, d2] }
  | _ => none }
def filterLiveRow : OpenClaim := { program := "ytheeclmpkddgjaadoor", sum := "b3bf00f52d10cd7636767177f53dc9295660dbf6930aa932371657489bc09818", func := "consort/consortlaw20.FilterLive", spec := "filterLive", unfollowed := true, recurses := true, named := ["math/bits.deBruijn64tab"], apart := false, laid := [("math/bits.deBruijn64tab", laid_math_bits_deBruijn64tab)] }
def FilterLiveSaid : Prop := filterLiveRow.holds Tryd.pinned (OpenSpec.ofChange filterLiveSpec)

/-- ITS FALSE NEIGHBOUR: 'it returns false'. Refute it at one input. -/
def filterLiveWrong : ChangeSpec := { name := "filterLive", fn := fun _ => fun
  | [d1, d2] => { results := [.lit (.bool false)], args := [d1, d2] }
  | _ => none }
def FilterLiveWrongFalsely : Prop := filterLiveRow.holds Tryd.pinned (OpenSpec.ofChange filterLiveWrong)

/-- 'consortlaw20.FilterCopies': WHATEVER THE INPUT: true; the input reads as it did. -/
def filterCopiesSpec : ChangeSpec := { name := "filterCopies", fn := fun _ => fun
  | [d1, d2, d3] => { results := [.lit (.bool true)], args := [d1, d2, d3] }
  | _ => none }
def filterCopiesRow : OpenClaim := { program := "ytheeclmpkddgjaadoor", sum := "b3bf00f52d10cd7636767177f53dc9295660dbf6930aa932371657489bc09818", func := "consort/consortlaw20.FilterCopies", spec := "filterCopies", inPlace := ["maps.clone"], unfollowed := true, recurses := true, named := ["math/bits.deBruijn64tab"], apart := false, laid := [("math/bits.deBruijn64tab", laid_math_bits_deBruijn64tab)] }
def FilterCopiesSaid : Prop := filterCopiesRow.holds Tryd.pinned (OpenSpec.ofChange filterCopiesSpec)

/-- ITS FALSE NEIGHBOUR: 'it returns false'. Refute it at one input. -/
def filterCopiesWrong : ChangeSpec := { name := "filterCopies", fn := fun _ => fun
  | [d1, d2, d3] => { results := [.lit (.bool false)], args := [d1, d2, d3] }
  | _ => none }
def FilterCopiesWrongFalsely : Prop := filterCopiesRow.holds Tryd.pinned (OpenSpec.ofChange filterCopiesWrong)

/- THE SECOND FORM. 'bulk': how many values and letters a reading holds, each counted each time it is reached (what is shared counts as often as it is met; a slice's spare places count too). A statement '..UptoSaid' is the law's where the arguments, and the package variables that the reading takes, are together of bulk at most 1048576: NARROWER than '..Said'. Prove '..Said' where nothing that the law and all that it calls make is longer than what came in: it says more and counts as full. Else prove '..UptoSaid'. A law counts once. -/
mutual
def uptoBulk {H : Type} : DataW H → Nat
  | .lit (.string bytes) => bytes.length + 1
  | .lit _ => 1
  | .nil => 1
  | .ptr d => uptoBulk d + 1
  | .slice elems spare => uptoBulkAll elems + uptoBulkAll spare + 1
  | .agg parts => uptoBulkAll parts + 1
  | .iface _ d => uptoBulk d + 1
  | .map entries => uptoBulkEntries entries + 1
  | .held _ => 1
def uptoBulkAll {H : Type} : List (DataW H) → Nat
  | [] => 0
  | d :: r => uptoBulk d + uptoBulkAll r
def uptoBulkEntries {H : Type} : List (Lit × DataW H) → Nat
  | [] => 0
  | x :: r => uptoBulkEntry x + uptoBulkEntries r
def uptoBulkEntry {H : Type} : Lit × DataW H → Nat
  | (.string bytes, d) => bytes.length + uptoBulk d + 1
  | (_, d) => uptoBulk d + 1
 end
def uptoSmall : (H : Type) → List (DataW H) → Bool := fun _ ds => decide (uptoBulkAll ds ≤ 1048576)
def OpenSpec.upto (s : _root_.Go.ChangeSpec) : _root_.Go.OpenSpec := { _root_.Go.OpenSpec.ofChange s with cond := some uptoSmall }

/-- 'consortlaw02.SetLists', WHERE WHAT IT READS IS OF BULK AT MOST 1048576: true; the input reads as it did. -/
def setListsUptoRow : OpenClaim := { program := "ytheeclmpkddgjaadoor", sum := "b3bf00f52d10cd7636767177f53dc9295660dbf6930aa932371657489bc09818", func := "consort/consortlaw02.SetLists", spec := "setLists", named := ["math/bits.deBruijn64tab"], apart := false, laid := [("math/bits.deBruijn64tab", laid_math_bits_deBruijn64tab)], narrowed := true }
def SetListsUptoSaid : Prop := setListsUptoRow.holds Tryd.pinned (OpenSpec.upto setListsSpec)

/-- 'consortlaw02.SetMost', WHERE WHAT IT READS IS OF BULK AT MOST 1048576: true; the input reads as it did. -/
def setMostUptoRow : OpenClaim := { program := "ytheeclmpkddgjaadoor", sum := "b3bf00f52d10cd7636767177f53dc9295660dbf6930aa932371657489bc09818", func := "consort/consortlaw02.SetMost", spec := "setMost", named := ["math/bits.deBruijn64tab"], apart := false, laid := [("math/bits.deBruijn64tab", laid_math_bits_deBruijn64tab)], narrowed := true }
def SetMostUptoSaid : Prop := setMostUptoRow.holds Tryd.pinned (OpenSpec.upto setMostSpec)

/-- 'consortlaw02.SetParts', WHERE WHAT IT READS IS OF BULK AT MOST 1048576: true; the input reads as it did. -/
def setPartsUptoRow : OpenClaim := { program := "ytheeclmpkddgjaadoor", sum := "b3bf00f52d10cd7636767177f53dc9295660dbf6930aa932371657489bc09818", func := "consort/consortlaw02.SetParts", spec := "setParts", named := ["math/bits.deBruijn64tab"], apart := false, laid := [("math/bits.deBruijn64tab", laid_math_bits_deBruijn64tab)], narrowed := true }
def SetPartsUptoSaid : Prop := setPartsUptoRow.holds Tryd.pinned (OpenSpec.upto setPartsSpec)

/-- 'consortlaw02.SetAll', WHERE WHAT IT READS IS OF BULK AT MOST 1048576: true; the input reads as it did. -/
def setAllUptoRow : OpenClaim := { program := "ytheeclmpkddgjaadoor", sum := "b3bf00f52d10cd7636767177f53dc9295660dbf6930aa932371657489bc09818", func := "consort/consortlaw02.SetAll", spec := "setAll", named := ["math/bits.deBruijn64tab"], apart := false, laid := [("math/bits.deBruijn64tab", laid_math_bits_deBruijn64tab)], narrowed := true }
def SetAllUptoSaid : Prop := setAllUptoRow.holds Tryd.pinned (OpenSpec.upto setAllSpec)

/-- 'consortlaw02.SetBack', WHERE WHAT IT READS IS OF BULK AT MOST 1048576: true; the input reads as it did. -/
def setBackUptoRow : OpenClaim := { program := "ytheeclmpkddgjaadoor", sum := "b3bf00f52d10cd7636767177f53dc9295660dbf6930aa932371657489bc09818", func := "consort/consortlaw02.SetBack", spec := "setBack", named := ["math/bits.deBruijn64tab"], apart := false, laid := [("math/bits.deBruijn64tab", laid_math_bits_deBruijn64tab)], narrowed := true }
def SetBackUptoSaid : Prop := setBackUptoRow.holds Tryd.pinned (OpenSpec.upto setBackSpec)

/-- 'consortlaw02.SetTells', WHERE WHAT IT READS IS OF BULK AT MOST 1048576: true; the input reads as it did. -/
def setTellsUptoRow : OpenClaim := { program := "ytheeclmpkddgjaadoor", sum := "b3bf00f52d10cd7636767177f53dc9295660dbf6930aa932371657489bc09818", func := "consort/consortlaw02.SetTells", spec := "setTells", named := ["math/bits.deBruijn64tab"], apart := false, laid := [("math/bits.deBruijn64tab", laid_math_bits_deBruijn64tab)], narrowed := true }
def SetTellsUptoSaid : Prop := setTellsUptoRow.holds Tryd.pinned (OpenSpec.upto setTellsSpec)

/-- 'consortlaw21.NamesTell', WHERE WHAT IT READS IS OF BULK AT MOST 1048576: true; the input reads as it did. -/
def namesTellUptoRow : OpenClaim := { program := "ytheeclmpkddgjaadoor", sum := "b3bf00f52d10cd7636767177f53dc9295660dbf6930aa932371657489bc09818", func := "consort/consortlaw21.NamesTell", spec := "namesTell", unfollowed := true, recurses := true, named := ["math/bits.deBruijn64tab"], apart := false, laid := [("math/bits.deBruijn64tab", laid_math_bits_deBruijn64tab)], narrowed := true }
def NamesTellUptoSaid : Prop := namesTellUptoRow.holds Tryd.pinned (OpenSpec.upto namesTellSpec)

/-- 'consortlaw21.NamesOne', WHERE WHAT IT READS IS OF BULK AT MOST 1048576: true; the input reads as it did. -/
def namesOneUptoRow : OpenClaim := { program := "ytheeclmpkddgjaadoor", sum := "b3bf00f52d10cd7636767177f53dc9295660dbf6930aa932371657489bc09818", func := "consort/consortlaw21.NamesOne", spec := "namesOne", unfollowed := true, recurses := true, named := ["math/bits.deBruijn64tab"], apart := false, laid := [("math/bits.deBruijn64tab", laid_math_bits_deBruijn64tab)], narrowed := true }
def NamesOneUptoSaid : Prop := namesOneUptoRow.holds Tryd.pinned (OpenSpec.upto namesOneSpec)

/-- 'consortlaw21.NamesKeep', WHERE WHAT IT READS IS OF BULK AT MOST 1048576: true; the input reads as it did. -/
def namesKeepUptoRow : OpenClaim := { program := "ytheeclmpkddgjaadoor", sum := "b3bf00f52d10cd7636767177f53dc9295660dbf6930aa932371657489bc09818", func := "consort/consortlaw21.NamesKeep", spec := "namesKeep", unfollowed := true, recurses := true, named := ["math/bits.deBruijn64tab"], apart := false, laid := [("math/bits.deBruijn64tab", laid_math_bits_deBruijn64tab)], narrowed := true }
def NamesKeepUptoSaid : Prop := namesKeepUptoRow.holds Tryd.pinned (OpenSpec.upto namesKeepSpec)

/-- 'consortlaw13.HorizonRises', WHERE WHAT IT READS IS OF BULK AT MOST 1048576: true; the input reads as it did. -/
def horizonRisesUptoRow : OpenClaim := { program := "ytheeclmpkddgjaadoor", sum := "b3bf00f52d10cd7636767177f53dc9295660dbf6930aa932371657489bc09818", func := "consort/consortlaw13.HorizonRises", spec := "horizonRises", unfollowed := true, recurses := true, named := ["math/bits.deBruijn64tab"], apart := false, laid := [("math/bits.deBruijn64tab", laid_math_bits_deBruijn64tab)], narrowed := true }
def HorizonRisesUptoSaid : Prop := horizonRisesUptoRow.holds Tryd.pinned (OpenSpec.upto horizonRisesSpec)

/-- 'consortlaw13.HorizonWaits', WHERE WHAT IT READS IS OF BULK AT MOST 1048576: true; the input reads as it did. -/
def horizonWaitsUptoRow : OpenClaim := { program := "ytheeclmpkddgjaadoor", sum := "b3bf00f52d10cd7636767177f53dc9295660dbf6930aa932371657489bc09818", func := "consort/consortlaw13.HorizonWaits", spec := "horizonWaits", unfollowed := true, recurses := true, named := ["math/bits.deBruijn64tab"], apart := false, laid := [("math/bits.deBruijn64tab", laid_math_bits_deBruijn64tab)], narrowed := true }
def HorizonWaitsUptoSaid : Prop := horizonWaitsUptoRow.holds Tryd.pinned (OpenSpec.upto horizonWaitsSpec)

/-- 'consortlaw13.HorizonMore', WHERE WHAT IT READS IS OF BULK AT MOST 1048576: true; the input reads as it did. -/
def horizonMoreUptoRow : OpenClaim := { program := "ytheeclmpkddgjaadoor", sum := "b3bf00f52d10cd7636767177f53dc9295660dbf6930aa932371657489bc09818", func := "consort/consortlaw13.HorizonMore", spec := "horizonMore", unfollowed := true, recurses := true, named := ["math/bits.deBruijn64tab"], apart := false, laid := [("math/bits.deBruijn64tab", laid_math_bits_deBruijn64tab)], narrowed := true }
def HorizonMoreUptoSaid : Prop := horizonMoreUptoRow.holds Tryd.pinned (OpenSpec.upto horizonMoreSpec)

/-- 'consortlaw13.HorizonCopies', WHERE WHAT IT READS IS OF BULK AT MOST 1048576: true; the input reads as it did. -/
def horizonCopiesUptoRow : OpenClaim := { program := "ytheeclmpkddgjaadoor", sum := "b3bf00f52d10cd7636767177f53dc9295660dbf6930aa932371657489bc09818", func := "consort/consortlaw13.HorizonCopies", spec := "horizonCopies", unfollowed := true, recurses := true, named := ["math/bits.deBruijn64tab"], apart := false, laid := [("math/bits.deBruijn64tab", laid_math_bits_deBruijn64tab)], narrowed := true }
def HorizonCopiesUptoSaid : Prop := horizonCopiesUptoRow.holds Tryd.pinned (OpenSpec.upto horizonCopiesSpec)

/-- 'consortlaw20.FilterOne', WHERE WHAT IT READS IS OF BULK AT MOST 1048576: true; the input reads as it did. -/
def filterOneUptoRow : OpenClaim := { program := "ytheeclmpkddgjaadoor", sum := "b3bf00f52d10cd7636767177f53dc9295660dbf6930aa932371657489bc09818", func := "consort/consortlaw20.FilterOne", spec := "filterOne", unfollowed := true, recurses := true, named := ["math/bits.deBruijn64tab"], apart := false, laid := [("math/bits.deBruijn64tab", laid_math_bits_deBruijn64tab)], narrowed := true }
def FilterOneUptoSaid : Prop := filterOneUptoRow.holds Tryd.pinned (OpenSpec.upto filterOneSpec)

/-- 'consortlaw20.FilterLive', WHERE WHAT IT READS IS OF BULK AT MOST 1048576: true; the input reads as it did. -/
def filterLiveUptoRow : OpenClaim := { program := "ytheeclmpkddgjaadoor", sum := "b3bf00f52d10cd7636767177f53dc9295660dbf6930aa932371657489bc09818", func := "consort/consortlaw20.FilterLive", spec := "filterLive", unfollowed := true, recurses := true, named := ["math/bits.deBruijn64tab"], apart := false, laid := [("math/bits.deBruijn64tab", laid_math_bits_deBruijn64tab)], narrowed := true }
def FilterLiveUptoSaid : Prop := filterLiveUptoRow.holds Tryd.pinned (OpenSpec.upto filterLiveSpec)

/-- 'consortlaw20.FilterCopies', WHERE WHAT IT READS IS OF BULK AT MOST 1048576: true; the input reads as it did. -/
def filterCopiesUptoRow : OpenClaim := { program := "ytheeclmpkddgjaadoor", sum := "b3bf00f52d10cd7636767177f53dc9295660dbf6930aa932371657489bc09818", func := "consort/consortlaw20.FilterCopies", spec := "filterCopies", inPlace := ["maps.clone"], unfollowed := true, recurses := true, named := ["math/bits.deBruijn64tab"], apart := false, laid := [("math/bits.deBruijn64tab", laid_math_bits_deBruijn64tab)], narrowed := true }
def FilterCopiesUptoSaid : Prop := filterCopiesUptoRow.holds Tryd.pinned (OpenSpec.upto filterCopiesSpec)

end Rows
end Go.Proofs.YtheeclmpkddgjaaDoor
