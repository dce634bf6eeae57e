/-
  No cell of these rows narrows 'for every input' (looked for: loops, veiled, ifaces, maps, wideKeys, modest, calm, conditions, laid).
  DERIVED. THE GIVEN ROWS OF THIS SEAT. 14 by the template 'for every input the law returns true; each argument reads behind the call as it read before'; 0 by the template 'total and deterministic' (their statements: YtiodkdpfkchkjaaTotals.lean).
  GIVEN WITH THE SEED: the statements are not yours to turn. If you find one false, say at which input.
  Laid BY PROGRAM, IN A SANDBOX (cutbox-rows.mjs): the forced cells as the released guide's own fill.sh prints them over the translation f66f0b8aefbaeb21… (all of the seat's roots in one cut). By AI agents, Wed Nov 11 2026. No macro, syntax, notation, axiom, sorry.
-/
import Derived.Test.YtiodkdpfkchkjaaChecked
import GoSem.Claim
import GoSem.ClaimJoined
import GoSem.ClaimMapViews
import Derived.JoinedTies
import Derived.KernelRfl
namespace Go.Proofs.Ytiodkdpfkchkjaa
/- THE CELL 'sum', in the pinned program and in every row, IS THE sha256 OF THE DUMP (.gsa) THAT YtiodkdpfkchkjaaProg.lean LOADS. Nothing in Lean hashes anything: it is a label: what it is worth is what the hold of that sum in a sandbox is worth. -/
noncomputable def Try.pinned : Pinned := { name := "ytiodkdpfkchkjaa", sum := "f66f0b8aefbaeb21f8eeb073f522133b85076edc5c9a262fbb70cfabadf99ce7", checked := Try.checked }
namespace Rows
def none {H : Type} : Left H := { results := [], args := [] }

/-- 'sheetmetallaw01.GeomSigns': WHATEVER THE INPUT: true; the input reads as it did. -/
def geomSignsSpec : ChangeSpec := { name := "geomSigns", fn := fun _ => fun
  | [d1, d2, d3] => { results := [.lit (.bool true)], args := [d1, d2, d3] }
  | _ => none }
def geomSignsRow : OpenClaim := { program := "ytiodkdpfkchkjaa", sum := "f66f0b8aefbaeb21f8eeb073f522133b85076edc5c9a262fbb70cfabadf99ce7", func := "sheetmetal/sheetmetallaw01.GeomSigns", spec := "geomSigns", apart := false }
def GeomSignsSaid : Prop := geomSignsRow.holds Try.pinned (OpenSpec.ofChange geomSignsSpec)

/-- ITS FALSE NEIGHBOUR: 'it returns false'. Refute it at one input. -/
def geomSignsWrong : ChangeSpec := { name := "geomSigns", fn := fun _ => fun
  | [d1, d2, d3] => { results := [.lit (.bool false)], args := [d1, d2, d3] }
  | _ => none }
def GeomSignsWrongFalsely : Prop := geomSignsRow.holds Try.pinned (OpenSpec.ofChange geomSignsWrong)

/-- 'sheetmetallaw01.GeomMultiplies': WHATEVER THE INPUT: true; the input reads as it did. -/
def geomMultipliesSpec : ChangeSpec := { name := "geomMultiplies", fn := fun _ => fun
  | [d1, d2] => { results := [.lit (.bool true)], args := [d1, d2] }
  | _ => none }
def geomMultipliesRow : OpenClaim := { program := "ytiodkdpfkchkjaa", sum := "f66f0b8aefbaeb21f8eeb073f522133b85076edc5c9a262fbb70cfabadf99ce7", func := "sheetmetal/sheetmetallaw01.GeomMultiplies", spec := "geomMultiplies", apart := false }
def GeomMultipliesSaid : Prop := geomMultipliesRow.holds Try.pinned (OpenSpec.ofChange geomMultipliesSpec)

/-- ITS FALSE NEIGHBOUR: 'it returns false'. Refute it at one input. -/
def geomMultipliesWrong : ChangeSpec := { name := "geomMultiplies", fn := fun _ => fun
  | [d1, d2] => { results := [.lit (.bool false)], args := [d1, d2] }
  | _ => none }
def GeomMultipliesWrongFalsely : Prop := geomMultipliesRow.holds Try.pinned (OpenSpec.ofChange geomMultipliesWrong)

/-- 'sheetmetallaw01.GeomTurns': WHATEVER THE INPUT: true; the input reads as it did. -/
def geomTurnsSpec : ChangeSpec := { name := "geomTurns", fn := fun _ => fun
  | [d1, d2] => { results := [.lit (.bool true)], args := [d1, d2] }
  | _ => none }
def geomTurnsRow : OpenClaim := { program := "ytiodkdpfkchkjaa", sum := "f66f0b8aefbaeb21f8eeb073f522133b85076edc5c9a262fbb70cfabadf99ce7", func := "sheetmetal/sheetmetallaw01.GeomTurns", spec := "geomTurns", recurses := true, apart := false }
def GeomTurnsSaid : Prop := geomTurnsRow.holds Try.pinned (OpenSpec.ofChange geomTurnsSpec)

/-- ITS FALSE NEIGHBOUR: 'it returns false'. Refute it at one input. -/
def geomTurnsWrong : ChangeSpec := { name := "geomTurns", fn := fun _ => fun
  | [d1, d2] => { results := [.lit (.bool false)], args := [d1, d2] }
  | _ => none }
def GeomTurnsWrongFalsely : Prop := geomTurnsRow.holds Try.pinned (OpenSpec.ofChange geomTurnsWrong)

/-- 'sheetmetallaw01.GeomRects': WHATEVER THE INPUT: true; the input reads as it did. -/
def geomRectsSpec : ChangeSpec := { name := "geomRects", fn := fun _ => fun
  | [d1, d2] => { results := [.lit (.bool true)], args := [d1, d2] }
  | _ => none }
def geomRectsRow : OpenClaim := { program := "ytiodkdpfkchkjaa", sum := "f66f0b8aefbaeb21f8eeb073f522133b85076edc5c9a262fbb70cfabadf99ce7", func := "sheetmetal/sheetmetallaw01.GeomRects", spec := "geomRects", unfollowed := true, recurses := true, apart := false }
def GeomRectsSaid : Prop := geomRectsRow.holds Try.pinned (OpenSpec.ofChange geomRectsSpec)

/-- ITS FALSE NEIGHBOUR: 'it returns false'. Refute it at one input. -/
def geomRectsWrong : ChangeSpec := { name := "geomRects", fn := fun _ => fun
  | [d1, d2] => { results := [.lit (.bool false)], args := [d1, d2] }
  | _ => none }
def GeomRectsWrongFalsely : Prop := geomRectsRow.holds Try.pinned (OpenSpec.ofChange geomRectsWrong)

/-- 'sheetmetallaw01.GeomOrients': WHATEVER THE INPUT: true; the input reads as it did. -/
def geomOrientsSpec : ChangeSpec := { name := "geomOrients", fn := fun _ => fun
  | [d1, d2, d3] => { results := [.lit (.bool true)], args := [d1, d2, d3] }
  | _ => none }
def geomOrientsRow : OpenClaim := { program := "ytiodkdpfkchkjaa", sum := "f66f0b8aefbaeb21f8eeb073f522133b85076edc5c9a262fbb70cfabadf99ce7", func := "sheetmetal/sheetmetallaw01.GeomOrients", spec := "geomOrients", apart := false }
def GeomOrientsSaid : Prop := geomOrientsRow.holds Try.pinned (OpenSpec.ofChange geomOrientsSpec)

/-- ITS FALSE NEIGHBOUR: 'it returns false'. Refute it at one input. -/
def geomOrientsWrong : ChangeSpec := { name := "geomOrients", fn := fun _ => fun
  | [d1, d2, d3] => { results := [.lit (.bool false)], args := [d1, d2, d3] }
  | _ => none }
def GeomOrientsWrongFalsely : Prop := geomOrientsRow.holds Try.pinned (OpenSpec.ofChange geomOrientsWrong)

/-- 'sheetmetallaw01.GeomHulls': WHATEVER THE INPUT: true; the input reads as it did. -/
def geomHullsSpec : ChangeSpec := { name := "geomHulls", fn := fun _ => fun
  | [d] => { results := [.lit (.bool true)], args := [d] }
  | _ => none }
def geomHullsRow : OpenClaim := { program := "ytiodkdpfkchkjaa", sum := "f66f0b8aefbaeb21f8eeb073f522133b85076edc5c9a262fbb70cfabadf99ce7", func := "sheetmetal/sheetmetallaw01.GeomHulls", spec := "geomHulls", unfollowed := true, recurses := true, apart := false }
def GeomHullsSaid : Prop := geomHullsRow.holds Try.pinned (OpenSpec.ofChange geomHullsSpec)

/-- ITS FALSE NEIGHBOUR: 'it returns false'. Refute it at one input. -/
def geomHullsWrong : ChangeSpec := { name := "geomHulls", fn := fun _ => fun
  | [d] => { results := [.lit (.bool false)], args := [d] }
  | _ => none }
def GeomHullsWrongFalsely : Prop := geomHullsRow.holds Try.pinned (OpenSpec.ofChange geomHullsWrong)

/-- 'sheetmetallaw01.GeomSweeps': WHATEVER THE INPUT: true; the input reads as it did. -/
def geomSweepsSpec : ChangeSpec := { name := "geomSweeps", fn := fun _ => fun
  | [d1, d2, d3] => { results := [.lit (.bool true)], args := [d1, d2, d3] }
  | _ => none }
def geomSweepsRow : OpenClaim := { program := "ytiodkdpfkchkjaa", sum := "f66f0b8aefbaeb21f8eeb073f522133b85076edc5c9a262fbb70cfabadf99ce7", func := "sheetmetal/sheetmetallaw01.GeomSweeps", spec := "geomSweeps", unfollowed := true, recurses := true, apart := false }
def GeomSweepsSaid : Prop := geomSweepsRow.holds Try.pinned (OpenSpec.ofChange geomSweepsSpec)

/-- ITS FALSE NEIGHBOUR: 'it returns false'. Refute it at one input. -/
def geomSweepsWrong : ChangeSpec := { name := "geomSweeps", fn := fun _ => fun
  | [d1, d2, d3] => { results := [.lit (.bool false)], args := [d1, d2, d3] }
  | _ => none }
def GeomSweepsWrongFalsely : Prop := geomSweepsRow.holds Try.pinned (OpenSpec.ofChange geomSweepsWrong)

/-- 'sheetmetaltop.TopRegions': WHATEVER THE INPUT: true; the input reads as it did. -/
def topRegionsSpec : ChangeSpec := { name := "topRegions", fn := fun _ => fun
  | [d1, d2] => { results := [.lit (.bool true)], args := [d1, d2] }
  | _ => none }
def topRegionsRow : OpenClaim := { program := "ytiodkdpfkchkjaa", sum := "f66f0b8aefbaeb21f8eeb073f522133b85076edc5c9a262fbb70cfabadf99ce7", func := "sheetmetal/sheetmetaltop.TopRegions", spec := "topRegions", unfollowed := true, recurses := true, apart := false }
def TopRegionsSaid : Prop := topRegionsRow.holds Try.pinned (OpenSpec.ofChange topRegionsSpec)

/-- ITS FALSE NEIGHBOUR: 'it returns false'. Refute it at one input. -/
def topRegionsWrong : ChangeSpec := { name := "topRegions", fn := fun _ => fun
  | [d1, d2] => { results := [.lit (.bool false)], args := [d1, d2] }
  | _ => none }
def TopRegionsWrongFalsely : Prop := topRegionsRow.holds Try.pinned (OpenSpec.ofChange topRegionsWrong)

/-- 'sheetmetallaw01.GeomHullHolds': WHATEVER THE INPUT: true; the input reads as it did. -/
def geomHullHoldsSpec : ChangeSpec := { name := "geomHullHolds", fn := fun _ => fun
  | [d] => { results := [.lit (.bool true)], args := [d] }
  | _ => none }
def geomHullHoldsRow : OpenClaim := { program := "ytiodkdpfkchkjaa", sum := "f66f0b8aefbaeb21f8eeb073f522133b85076edc5c9a262fbb70cfabadf99ce7", func := "sheetmetal/sheetmetallaw01.GeomHullHolds", spec := "geomHullHolds", unfollowed := true, recurses := true, apart := false }
def GeomHullHoldsSaid : Prop := geomHullHoldsRow.holds Try.pinned (OpenSpec.ofChange geomHullHoldsSpec)

/-- ITS FALSE NEIGHBOUR: 'it returns false'. Refute it at one input. -/
def geomHullHoldsWrong : ChangeSpec := { name := "geomHullHolds", fn := fun _ => fun
  | [d] => { results := [.lit (.bool false)], args := [d] }
  | _ => none }
def GeomHullHoldsWrongFalsely : Prop := geomHullHoldsRow.holds Try.pinned (OpenSpec.ofChange geomHullHoldsWrong)

/-- 'sheetmetallaw01.GeomSweepHolds': WHATEVER THE INPUT: true; the input reads as it did. -/
def geomSweepHoldsSpec : ChangeSpec := { name := "geomSweepHolds", fn := fun _ => fun
  | [d1, d2, d3] => { results := [.lit (.bool true)], args := [d1, d2, d3] }
  | _ => none }
def geomSweepHoldsRow : OpenClaim := { program := "ytiodkdpfkchkjaa", sum := "f66f0b8aefbaeb21f8eeb073f522133b85076edc5c9a262fbb70cfabadf99ce7", func := "sheetmetal/sheetmetallaw01.GeomSweepHolds", spec := "geomSweepHolds", unfollowed := true, recurses := true, apart := false }
def GeomSweepHoldsSaid : Prop := geomSweepHoldsRow.holds Try.pinned (OpenSpec.ofChange geomSweepHoldsSpec)

/-- ITS FALSE NEIGHBOUR: 'it returns false'. Refute it at one input. -/
def geomSweepHoldsWrong : ChangeSpec := { name := "geomSweepHolds", fn := fun _ => fun
  | [d1, d2, d3] => { results := [.lit (.bool false)], args := [d1, d2, d3] }
  | _ => none }
def GeomSweepHoldsWrongFalsely : Prop := geomSweepHoldsRow.holds Try.pinned (OpenSpec.ofChange geomSweepHoldsWrong)

/-- 'sheetmetallaw01.GeomMeets': WHATEVER THE INPUT: true; the input reads as it did. -/
def geomMeetsSpec : ChangeSpec := { name := "geomMeets", fn := fun _ => fun
  | [d1, d2] => { results := [.lit (.bool true)], args := [d1, d2] }
  | _ => none }
def geomMeetsRow : OpenClaim := { program := "ytiodkdpfkchkjaa", sum := "f66f0b8aefbaeb21f8eeb073f522133b85076edc5c9a262fbb70cfabadf99ce7", func := "sheetmetal/sheetmetallaw01.GeomMeets", spec := "geomMeets", unfollowed := true, recurses := true, apart := false }
def GeomMeetsSaid : Prop := geomMeetsRow.holds Try.pinned (OpenSpec.ofChange geomMeetsSpec)

/-- ITS FALSE NEIGHBOUR: 'it returns false'. Refute it at one input. -/
def geomMeetsWrong : ChangeSpec := { name := "geomMeets", fn := fun _ => fun
  | [d1, d2] => { results := [.lit (.bool false)], args := [d1, d2] }
  | _ => none }
def GeomMeetsWrongFalsely : Prop := geomMeetsRow.holds Try.pinned (OpenSpec.ofChange geomMeetsWrong)

/-- 'sheetmetallaw01.GeomMeetsMore': WHATEVER THE INPUT: true; the input reads as it did. -/
def geomMeetsMoreSpec : ChangeSpec := { name := "geomMeetsMore", fn := fun _ => fun
  | [d1, d2, d3] => { results := [.lit (.bool true)], args := [d1, d2, d3] }
  | _ => none }
def geomMeetsMoreRow : OpenClaim := { program := "ytiodkdpfkchkjaa", sum := "f66f0b8aefbaeb21f8eeb073f522133b85076edc5c9a262fbb70cfabadf99ce7", func := "sheetmetal/sheetmetallaw01.GeomMeetsMore", spec := "geomMeetsMore", unfollowed := true, recurses := true, apart := false }
def GeomMeetsMoreSaid : Prop := geomMeetsMoreRow.holds Try.pinned (OpenSpec.ofChange geomMeetsMoreSpec)

/-- ITS FALSE NEIGHBOUR: 'it returns false'. Refute it at one input. -/
def geomMeetsMoreWrong : ChangeSpec := { name := "geomMeetsMore", fn := fun _ => fun
  | [d1, d2, d3] => { results := [.lit (.bool false)], args := [d1, d2, d3] }
  | _ => none }
def GeomMeetsMoreWrongFalsely : Prop := geomMeetsMoreRow.holds Try.pinned (OpenSpec.ofChange geomMeetsMoreWrong)

/-- 'sheetmetallaw01.GeomAreas': WHATEVER THE INPUT: true; the input reads as it did. -/
def geomAreasSpec : ChangeSpec := { name := "geomAreas", fn := fun _ => fun
  | [d1, d2] => { results := [.lit (.bool true)], args := [d1, d2] }
  | _ => none }
def geomAreasRow : OpenClaim := { program := "ytiodkdpfkchkjaa", sum := "f66f0b8aefbaeb21f8eeb073f522133b85076edc5c9a262fbb70cfabadf99ce7", func := "sheetmetal/sheetmetallaw01.GeomAreas", spec := "geomAreas", unfollowed := true, recurses := true, apart := false }
def GeomAreasSaid : Prop := geomAreasRow.holds Try.pinned (OpenSpec.ofChange geomAreasSpec)

/-- ITS FALSE NEIGHBOUR: 'it returns false'. Refute it at one input. -/
def geomAreasWrong : ChangeSpec := { name := "geomAreas", fn := fun _ => fun
  | [d1, d2] => { results := [.lit (.bool false)], args := [d1, d2] }
  | _ => none }
def GeomAreasWrongFalsely : Prop := geomAreasRow.holds Try.pinned (OpenSpec.ofChange geomAreasWrong)

/-- 'sheetmetallaw01.GeomOutlines': WHATEVER THE INPUT: true; the input reads as it did. -/
def geomOutlinesSpec : ChangeSpec := { name := "geomOutlines", fn := fun _ => fun
  | [d] => { results := [.lit (.bool true)], args := [d] }
  | _ => none }
def geomOutlinesRow : OpenClaim := { program := "ytiodkdpfkchkjaa", sum := "f66f0b8aefbaeb21f8eeb073f522133b85076edc5c9a262fbb70cfabadf99ce7", func := "sheetmetal/sheetmetallaw01.GeomOutlines", spec := "geomOutlines", unfollowed := true, recurses := true, apart := false }
def GeomOutlinesSaid : Prop := geomOutlinesRow.holds Try.pinned (OpenSpec.ofChange geomOutlinesSpec)

/-- ITS FALSE NEIGHBOUR: 'it returns false'. Refute it at one input. -/
def geomOutlinesWrong : ChangeSpec := { name := "geomOutlines", fn := fun _ => fun
  | [d] => { results := [.lit (.bool false)], args := [d] }
  | _ => none }
def GeomOutlinesWrongFalsely : Prop := geomOutlinesRow.holds Try.pinned (OpenSpec.ofChange geomOutlinesWrong)

/- THE SECOND FORM. 'bulk': how many values and letters a reading holds, each counted each time it is reached (what is shared counts as often as it is met; a slice's spare places count too). A statement '..UptoSaid' is the law's where the arguments, and the package variables that the reading takes, are together of bulk at most 1048576: NARROWER than '..Said'. Prove '..Said' where nothing that the law and all that it calls make is longer than what came in: it says more and counts as full. Else prove '..UptoSaid'. A law counts once. -/
mutual
def uptoBulk {H : Type} : DataW H → Nat
  | .lit (.string bytes) => bytes.length + 1
  | .lit _ => 1
  | .nil => 1
  | .ptr d => uptoBulk d + 1
  | .slice elems spare => uptoBulkAll elems + uptoBulkAll spare + 1
  | .agg parts => uptoBulkAll parts + 1
  | .iface _ d => uptoBulk d + 1
  | .map entries => uptoBulkEntries entries + 1
  | .held _ => 1
def uptoBulkAll {H : Type} : List (DataW H) → Nat
  | [] => 0
  | d :: r => uptoBulk d + uptoBulkAll r
def uptoBulkEntries {H : Type} : List (Lit × DataW H) → Nat
  | [] => 0
  | x :: r => uptoBulkEntry x + uptoBulkEntries r
def uptoBulkEntry {H : Type} : Lit × DataW H → Nat
  | (.string bytes, d) => bytes.length + uptoBulk d + 1
  | (_, d) => uptoBulk d + 1
 end
def uptoSmall : (H : Type) → List (DataW H) → Bool := fun _ ds => decide (uptoBulkAll ds ≤ 1048576)
def OpenSpec.upto (s : _root_.Go.ChangeSpec) : _root_.Go.OpenSpec := { _root_.Go.OpenSpec.ofChange s with cond := some uptoSmall }

/-- 'sheetmetallaw01.GeomSigns', WHERE WHAT IT READS IS OF BULK AT MOST 1048576: true; the input reads as it did. -/
def geomSignsUptoRow : OpenClaim := { program := "ytiodkdpfkchkjaa", sum := "f66f0b8aefbaeb21f8eeb073f522133b85076edc5c9a262fbb70cfabadf99ce7", func := "sheetmetal/sheetmetallaw01.GeomSigns", spec := "geomSigns", apart := false, narrowed := true }
def GeomSignsUptoSaid : Prop := geomSignsUptoRow.holds Try.pinned (OpenSpec.upto geomSignsSpec)

/-- 'sheetmetallaw01.GeomMultiplies', WHERE WHAT IT READS IS OF BULK AT MOST 1048576: true; the input reads as it did. -/
def geomMultipliesUptoRow : OpenClaim := { program := "ytiodkdpfkchkjaa", sum := "f66f0b8aefbaeb21f8eeb073f522133b85076edc5c9a262fbb70cfabadf99ce7", func := "sheetmetal/sheetmetallaw01.GeomMultiplies", spec := "geomMultiplies", apart := false, narrowed := true }
def GeomMultipliesUptoSaid : Prop := geomMultipliesUptoRow.holds Try.pinned (OpenSpec.upto geomMultipliesSpec)

/-- 'sheetmetallaw01.GeomTurns', WHERE WHAT IT READS IS OF BULK AT MOST 1048576: true; the input reads as it did. -/
def geomTurnsUptoRow : OpenClaim := { program := "ytiodkdpfkchkjaa", sum := "f66f0b8aefbaeb21f8eeb073f522133b85076edc5c9a262fbb70cfabadf99ce7", func := "sheetmetal/sheetmetallaw01.GeomTurns", spec := "geomTurns", recurses := true, apart := false, narrowed := true }
def GeomTurnsUptoSaid : Prop := geomTurnsUptoRow.holds Try.pinned (OpenSpec.upto geomTurnsSpec)

/-- 'sheetmetallaw01.GeomRects', WHERE WHAT IT READS IS OF BULK AT MOST 1048576: true; the input reads as it did. -/
def geomRectsUptoRow : OpenClaim := { program := "ytiodkdpfkchkjaa", sum := "f66f0b8aefbaeb21f8eeb073f522133b85076edc5c9a262fbb70cfabadf99ce7", func := "sheetmetal/sheetmetallaw01.GeomRects", spec := "geomRects", unfollowed := true, recurses := true, apart := false, narrowed := true }
def GeomRectsUptoSaid : Prop := geomRectsUptoRow.holds Try.pinned (OpenSpec.upto geomRectsSpec)

/-- 'sheetmetallaw01.GeomOrients', WHERE WHAT IT READS IS OF BULK AT MOST 1048576: true; the input reads as it did. -/
def geomOrientsUptoRow : OpenClaim := { program := "ytiodkdpfkchkjaa", sum := "f66f0b8aefbaeb21f8eeb073f522133b85076edc5c9a262fbb70cfabadf99ce7", func := "sheetmetal/sheetmetallaw01.GeomOrients", spec := "geomOrients", apart := false, narrowed := true }
def GeomOrientsUptoSaid : Prop := geomOrientsUptoRow.holds Try.pinned (OpenSpec.upto geomOrientsSpec)

/-- 'sheetmetallaw01.GeomHulls', WHERE WHAT IT READS IS OF BULK AT MOST 1048576: true; the input reads as it did. -/
def geomHullsUptoRow : OpenClaim := { program := "ytiodkdpfkchkjaa", sum := "f66f0b8aefbaeb21f8eeb073f522133b85076edc5c9a262fbb70cfabadf99ce7", func := "sheetmetal/sheetmetallaw01.GeomHulls", spec := "geomHulls", unfollowed := true, recurses := true, apart := false, narrowed := true }
def GeomHullsUptoSaid : Prop := geomHullsUptoRow.holds Try.pinned (OpenSpec.upto geomHullsSpec)

/-- 'sheetmetallaw01.GeomSweeps', WHERE WHAT IT READS IS OF BULK AT MOST 1048576: true; the input reads as it did. -/
def geomSweepsUptoRow : OpenClaim := { program := "ytiodkdpfkchkjaa", sum := "f66f0b8aefbaeb21f8eeb073f522133b85076edc5c9a262fbb70cfabadf99ce7", func := "sheetmetal/sheetmetallaw01.GeomSweeps", spec := "geomSweeps", unfollowed := true, recurses := true, apart := false, narrowed := true }
def GeomSweepsUptoSaid : Prop := geomSweepsUptoRow.holds Try.pinned (OpenSpec.upto geomSweepsSpec)

/-- 'sheetmetaltop.TopRegions', WHERE WHAT IT READS IS OF BULK AT MOST 1048576: true; the input reads as it did. -/
def topRegionsUptoRow : OpenClaim := { program := "ytiodkdpfkchkjaa", sum := "f66f0b8aefbaeb21f8eeb073f522133b85076edc5c9a262fbb70cfabadf99ce7", func := "sheetmetal/sheetmetaltop.TopRegions", spec := "topRegions", unfollowed := true, recurses := true, apart := false, narrowed := true }
def TopRegionsUptoSaid : Prop := topRegionsUptoRow.holds Try.pinned (OpenSpec.upto topRegionsSpec)

/-- 'sheetmetallaw01.GeomHullHolds', WHERE WHAT IT READS IS OF BULK AT MOST 1048576: true; the input reads as it did. -/
def geomHullHoldsUptoRow : OpenClaim := { program := "ytiodkdpfkchkjaa", sum := "f66f0b8aefbaeb21f8eeb073f522133b85076edc5c9a262fbb70cfabadf99ce7", func := "sheetmetal/sheetmetallaw01.GeomHullHolds", spec := "geomHullHolds", unfollowed := true, recurses := true, apart := false, narrowed := true }
def GeomHullHoldsUptoSaid : Prop := geomHullHoldsUptoRow.holds Try.pinned (OpenSpec.upto geomHullHoldsSpec)

/-- 'sheetmetallaw01.GeomSweepHolds', WHERE WHAT IT READS IS OF BULK AT MOST 1048576: true; the input reads as it did. -/
def geomSweepHoldsUptoRow : OpenClaim := { program := "ytiodkdpfkchkjaa", sum := "f66f0b8aefbaeb21f8eeb073f522133b85076edc5c9a262fbb70cfabadf99ce7", func := "sheetmetal/sheetmetallaw01.GeomSweepHolds", spec := "geomSweepHolds", unfollowed := true, recurses := true, apart := false, narrowed := true }
def GeomSweepHoldsUptoSaid : Prop := geomSweepHoldsUptoRow.holds Try.pinned (OpenSpec.upto geomSweepHoldsSpec)

/-- 'sheetmetallaw01.GeomMeets', WHERE WHAT IT READS IS OF BULK AT MOST 1048576: true; the input reads as it did. -/
def geomMeetsUptoRow : OpenClaim := { program := "ytiodkdpfkchkjaa", sum := "f66f0b8aefbaeb21f8eeb073f522133b85076edc5c9a262fbb70cfabadf99ce7", func := "sheetmetal/sheetmetallaw01.GeomMeets", spec := "geomMeets", unfollowed := true, recurses := true, apart := false, narrowed := true }
def GeomMeetsUptoSaid : Prop := geomMeetsUptoRow.holds Try.pinned (OpenSpec.upto geomMeetsSpec)

/-- 'sheetmetallaw01.GeomMeetsMore', WHERE WHAT IT READS IS OF BULK AT MOST 1048576: true; the input reads as it did. -/
def geomMeetsMoreUptoRow : OpenClaim := { program := "ytiodkdpfkchkjaa", sum := "f66f0b8aefbaeb21f8eeb073f522133b85076edc5c9a262fbb70cfabadf99ce7", func := "sheetmetal/sheetmetallaw01.GeomMeetsMore", spec := "geomMeetsMore", unfollowed := true, recurses := true, apart := false, narrowed := true }
def GeomMeetsMoreUptoSaid : Prop := geomMeetsMoreUptoRow.holds Try.pinned (OpenSpec.upto geomMeetsMoreSpec)

/-- 'sheetmetallaw01.GeomAreas', WHERE WHAT IT READS IS OF BULK AT MOST 1048576: true; the input reads as it did. -/
def geomAreasUptoRow : OpenClaim := { program := "ytiodkdpfkchkjaa", sum := "f66f0b8aefbaeb21f8eeb073f522133b85076edc5c9a262fbb70cfabadf99ce7", func := "sheetmetal/sheetmetallaw01.GeomAreas", spec := "geomAreas", unfollowed := true, recurses := true, apart := false, narrowed := true }
def GeomAreasUptoSaid : Prop := geomAreasUptoRow.holds Try.pinned (OpenSpec.upto geomAreasSpec)

/-- 'sheetmetallaw01.GeomOutlines', WHERE WHAT IT READS IS OF BULK AT MOST 1048576: true; the input reads as it did. -/
def geomOutlinesUptoRow : OpenClaim := { program := "ytiodkdpfkchkjaa", sum := "f66f0b8aefbaeb21f8eeb073f522133b85076edc5c9a262fbb70cfabadf99ce7", func := "sheetmetal/sheetmetallaw01.GeomOutlines", spec := "geomOutlines", unfollowed := true, recurses := true, apart := false, narrowed := true }
def GeomOutlinesUptoSaid : Prop := geomOutlinesUptoRow.holds Try.pinned (OpenSpec.upto geomOutlinesSpec)

end Rows
end Go.Proofs.Ytiodkdpfkchkjaa
