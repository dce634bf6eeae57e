/-
  No cell of these rows narrows 'for every input' (looked for: loops, veiled, ifaces, maps, wideKeys, modest, calm, conditions, laid).
  DERIVED. THE GIVEN ROWS OF THIS SEAT. 8 by the template 'for every input the law returns true; each argument reads behind the call as it read before'; 0 by the template 'total and deterministic' (their statements: YtgfjbgoehhnaeaaGreatTotals.lean).
  GIVEN WITH THE SEED: the statements are not yours to turn. If you find one false, say at which input.
  Laid BY PROGRAM, IN A SANDBOX (cutbox-rows.mjs): the forced cells as the released guide's own fill.sh prints them over the translation 8cb248786a542c60… (all of the seat's roots in one cut). By AI agents, Wed Nov 11 2026. No macro, syntax, notation, axiom, sorry.
-/
import Derived.Test.YtgfjbgoehhnaeaaGreatChecked
import GoSem.Claim
import GoSem.ClaimJoined
import GoSem.ClaimMapViews
import Derived.JoinedTies
import Derived.KernelRfl
namespace Go.Proofs.YtgfjbgoehhnaeaaGreat
/- THE CELL 'sum', in the pinned program and in every row, IS THE sha256 OF THE DUMP (.gsa) THAT YtgfjbgoehhnaeaaGreatProg.lean LOADS. Nothing in Lean hashes anything: it is a label: what it is worth is what the hold of that sum in a sandbox is worth. -/
noncomputable def Tryz.pinned : Pinned := { name := "ytgfjbgoehhnaeaagreat", sum := "8cb248786a542c6007d4906edd17f4596183cdfb23676ab55c04ee6eba23ae9d", checked := Tryz.checked }
namespace Rows
def none {H : Type} : Left H := { results := [], args := [] }

/-- 'sheetmetallaw07.CutValidates': WHATEVER THE INPUT: true; the input reads as it did. -/
def cutValidatesSpec : ChangeSpec := { name := "cutValidates", fn := fun _ => fun
  | [d] => { results := [.lit (.bool true)], args := [d] }
  | _ => none }
def cutValidatesRow : OpenClaim := { program := "ytgfjbgoehhnaeaagreat", sum := "8cb248786a542c6007d4906edd17f4596183cdfb23676ab55c04ee6eba23ae9d", func := "sheetmetal/sheetmetallaw07.CutValidates", spec := "cutValidates", inPlace := ["internal/bytealg.IndexByteString", "internal/bytealg.IndexString"], unfollowed := true, recurses := true, named := ["internal/bytealg.MaxLen"], apart := false }
def CutValidatesSaid : Prop := cutValidatesRow.holds Tryz.pinned (OpenSpec.ofChange cutValidatesSpec)

/-- ITS FALSE NEIGHBOUR: 'it returns false'. Refute it at one input. -/
def cutValidatesWrong : ChangeSpec := { name := "cutValidates", fn := fun _ => fun
  | [d] => { results := [.lit (.bool false)], args := [d] }
  | _ => none }
def CutValidatesWrongFalsely : Prop := cutValidatesRow.holds Tryz.pinned (OpenSpec.ofChange cutValidatesWrong)

/-- 'sheetmetallaw07.CutEdges': WHATEVER THE INPUT: true; the input reads as it did. -/
def cutEdgesSpec : ChangeSpec := { name := "cutEdges", fn := fun _ => fun
  | [d] => { results := [.lit (.bool true)], args := [d] }
  | _ => none }
def cutEdgesRow : OpenClaim := { program := "ytgfjbgoehhnaeaagreat", sum := "8cb248786a542c6007d4906edd17f4596183cdfb23676ab55c04ee6eba23ae9d", func := "sheetmetal/sheetmetallaw07.CutEdges", spec := "cutEdges", inPlace := ["internal/bytealg.IndexByteString", "internal/bytealg.IndexString"], unfollowed := true, recurses := true, named := ["internal/bytealg.MaxLen"], apart := false }
def CutEdgesSaid : Prop := cutEdgesRow.holds Tryz.pinned (OpenSpec.ofChange cutEdgesSpec)

/-- ITS FALSE NEIGHBOUR: 'it returns false'. Refute it at one input. -/
def cutEdgesWrong : ChangeSpec := { name := "cutEdges", fn := fun _ => fun
  | [d] => { results := [.lit (.bool false)], args := [d] }
  | _ => none }
def CutEdgesWrongFalsely : Prop := cutEdgesRow.holds Tryz.pinned (OpenSpec.ofChange cutEdgesWrong)

/-- 'sheetmetallaw07.CutDoes': WHATEVER THE INPUT: true; the input reads as it did. -/
def cutDoesSpec : ChangeSpec := { name := "cutDoes", fn := fun _ => fun
  | [d1, d2, d3] => { results := [.lit (.bool true)], args := [d1, d2, d3] }
  | _ => none }
def cutDoesRow : OpenClaim := { program := "ytgfjbgoehhnaeaagreat", sum := "8cb248786a542c6007d4906edd17f4596183cdfb23676ab55c04ee6eba23ae9d", func := "sheetmetal/sheetmetallaw07.CutDoes", spec := "cutDoes", inPlace := ["internal/bytealg.IndexByteString", "internal/bytealg.IndexString"], unfollowed := true, recurses := true, named := ["internal/bytealg.MaxLen"], apart := false }
def CutDoesSaid : Prop := cutDoesRow.holds Tryz.pinned (OpenSpec.ofChange cutDoesSpec)

/-- ITS FALSE NEIGHBOUR: 'it returns false'. Refute it at one input. -/
def cutDoesWrong : ChangeSpec := { name := "cutDoes", fn := fun _ => fun
  | [d1, d2, d3] => { results := [.lit (.bool false)], args := [d1, d2, d3] }
  | _ => none }
def CutDoesWrongFalsely : Prop := cutDoesRow.holds Tryz.pinned (OpenSpec.ofChange cutDoesWrong)

/-- 'sheetmetallaw07.CutRuns': WHATEVER THE INPUT: true; the input reads as it did. -/
def cutRunsSpec : ChangeSpec := { name := "cutRuns", fn := fun _ => fun
  | [d1, d2] => { results := [.lit (.bool true)], args := [d1, d2] }
  | _ => none }
def cutRunsRow : OpenClaim := { program := "ytgfjbgoehhnaeaagreat", sum := "8cb248786a542c6007d4906edd17f4596183cdfb23676ab55c04ee6eba23ae9d", func := "sheetmetal/sheetmetallaw07.CutRuns", spec := "cutRuns", inPlace := ["internal/bytealg.IndexByteString", "internal/bytealg.IndexString"], unfollowed := true, recurses := true, named := ["internal/bytealg.MaxLen"], apart := false }
def CutRunsSaid : Prop := cutRunsRow.holds Tryz.pinned (OpenSpec.ofChange cutRunsSpec)

/-- ITS FALSE NEIGHBOUR: 'it returns false'. Refute it at one input. -/
def cutRunsWrong : ChangeSpec := { name := "cutRuns", fn := fun _ => fun
  | [d1, d2] => { results := [.lit (.bool false)], args := [d1, d2] }
  | _ => none }
def CutRunsWrongFalsely : Prop := cutRunsRow.holds Tryz.pinned (OpenSpec.ofChange cutRunsWrong)

/-- 'sheetmetallaw07.CutFalls': WHATEVER THE INPUT: true; the input reads as it did. -/
def cutFallsSpec : ChangeSpec := { name := "cutFalls", fn := fun _ => fun
  | [d1, d2] => { results := [.lit (.bool true)], args := [d1, d2] }
  | _ => none }
def cutFallsRow : OpenClaim := { program := "ytgfjbgoehhnaeaagreat", sum := "8cb248786a542c6007d4906edd17f4596183cdfb23676ab55c04ee6eba23ae9d", func := "sheetmetal/sheetmetallaw07.CutFalls", spec := "cutFalls", inPlace := ["internal/bytealg.IndexByteString", "internal/bytealg.IndexString"], unfollowed := true, recurses := true, named := ["internal/bytealg.MaxLen"], apart := false }
def CutFallsSaid : Prop := cutFallsRow.holds Tryz.pinned (OpenSpec.ofChange cutFallsSpec)

/-- ITS FALSE NEIGHBOUR: 'it returns false'. Refute it at one input. -/
def cutFallsWrong : ChangeSpec := { name := "cutFalls", fn := fun _ => fun
  | [d1, d2] => { results := [.lit (.bool false)], args := [d1, d2] }
  | _ => none }
def CutFallsWrongFalsely : Prop := cutFallsRow.holds Tryz.pinned (OpenSpec.ofChange cutFallsWrong)

/-- 'sheetmetallaw07.CutPlans': WHATEVER THE INPUT: true; the input reads as it did. -/
def cutPlansSpec : ChangeSpec := { name := "cutPlans", fn := fun _ => fun
  | [d] => { results := [.lit (.bool true)], args := [d] }
  | _ => none }
def cutPlansRow : OpenClaim := { program := "ytgfjbgoehhnaeaagreat", sum := "8cb248786a542c6007d4906edd17f4596183cdfb23676ab55c04ee6eba23ae9d", func := "sheetmetal/sheetmetallaw07.CutPlans", spec := "cutPlans", inPlace := ["internal/bytealg.IndexByteString", "internal/bytealg.IndexString"], unfollowed := true, recurses := true, named := ["internal/bytealg.MaxLen"], apart := false }
def CutPlansSaid : Prop := cutPlansRow.holds Tryz.pinned (OpenSpec.ofChange cutPlansSpec)

/-- ITS FALSE NEIGHBOUR: 'it returns false'. Refute it at one input. -/
def cutPlansWrong : ChangeSpec := { name := "cutPlans", fn := fun _ => fun
  | [d] => { results := [.lit (.bool false)], args := [d] }
  | _ => none }
def CutPlansWrongFalsely : Prop := cutPlansRow.holds Tryz.pinned (OpenSpec.ofChange cutPlansWrong)

/-- 'sheetmetallaw07.CutBorders': WHATEVER THE INPUT: true; the input reads as it did. -/
def cutBordersSpec : ChangeSpec := { name := "cutBorders", fn := fun _ => fun
  | [d1, d2, d3] => { results := [.lit (.bool true)], args := [d1, d2, d3] }
  | _ => none }
def cutBordersRow : OpenClaim := { program := "ytgfjbgoehhnaeaagreat", sum := "8cb248786a542c6007d4906edd17f4596183cdfb23676ab55c04ee6eba23ae9d", func := "sheetmetal/sheetmetallaw07.CutBorders", spec := "cutBorders", inPlace := ["internal/bytealg.IndexByteString", "internal/bytealg.IndexString"], unfollowed := true, recurses := true, named := ["internal/bytealg.MaxLen"], apart := false }
def CutBordersSaid : Prop := cutBordersRow.holds Tryz.pinned (OpenSpec.ofChange cutBordersSpec)

/-- ITS FALSE NEIGHBOUR: 'it returns false'. Refute it at one input. -/
def cutBordersWrong : ChangeSpec := { name := "cutBorders", fn := fun _ => fun
  | [d1, d2, d3] => { results := [.lit (.bool false)], args := [d1, d2, d3] }
  | _ => none }
def CutBordersWrongFalsely : Prop := cutBordersRow.holds Tryz.pinned (OpenSpec.ofChange cutBordersWrong)

/-- 'sheetmetallaw07.CutLayouts': WHATEVER THE INPUT: true; the input reads as it did. -/
def cutLayoutsSpec : ChangeSpec := { name := "cutLayouts", fn := fun _ => fun
  | [d1, d2] => { results := [.lit (.bool true)], args := [d1, d2] }
  | _ => none }
def cutLayoutsRow : OpenClaim := { program := "ytgfjbgoehhnaeaagreat", sum := "8cb248786a542c6007d4906edd17f4596183cdfb23676ab55c04ee6eba23ae9d", func := "sheetmetal/sheetmetallaw07.CutLayouts", spec := "cutLayouts", inPlace := ["internal/bytealg.IndexByteString", "internal/bytealg.IndexString"], unfollowed := true, recurses := true, named := ["internal/bytealg.MaxLen"], apart := false }
def CutLayoutsSaid : Prop := cutLayoutsRow.holds Tryz.pinned (OpenSpec.ofChange cutLayoutsSpec)

/-- ITS FALSE NEIGHBOUR: 'it returns false'. Refute it at one input. -/
def cutLayoutsWrong : ChangeSpec := { name := "cutLayouts", fn := fun _ => fun
  | [d1, d2] => { results := [.lit (.bool false)], args := [d1, d2] }
  | _ => none }
def CutLayoutsWrongFalsely : Prop := cutLayoutsRow.holds Tryz.pinned (OpenSpec.ofChange cutLayoutsWrong)

/- THE SECOND FORM. 'bulk': how many values and letters a reading holds, each counted each time it is reached (what is shared counts as often as it is met; a slice's spare places count too). A statement '..UptoSaid' is the law's where the arguments, and the package variables that the reading takes, are together of bulk at most 1048576: NARROWER than '..Said'. Prove '..Said' where nothing that the law and all that it calls make is longer than what came in: it says more and counts as full. Else prove '..UptoSaid'. A law counts once. -/
mutual
def uptoBulk {H : Type} : DataW H → Nat
  | .lit (.string bytes) => bytes.length + 1
  | .lit _ => 1
  | .nil => 1
  | .ptr d => uptoBulk d + 1
  | .slice elems spare => uptoBulkAll elems + uptoBulkAll spare + 1
  | .agg parts => uptoBulkAll parts + 1
  | .iface _ d => uptoBulk d + 1
  | .map entries => uptoBulkEntries entries + 1
  | .held _ => 1
def uptoBulkAll {H : Type} : List (DataW H) → Nat
  | [] => 0
  | d :: r => uptoBulk d + uptoBulkAll r
def uptoBulkEntries {H : Type} : List (Lit × DataW H) → Nat
  | [] => 0
  | x :: r => uptoBulkEntry x + uptoBulkEntries r
def uptoBulkEntry {H : Type} : Lit × DataW H → Nat
  | (.string bytes, d) => bytes.length + uptoBulk d + 1
  | (_, d) => uptoBulk d + 1
 end
def uptoSmall : (H : Type) → List (DataW H) → Bool := fun _ ds => decide (uptoBulkAll ds ≤ 1048576)
def OpenSpec.upto (s : _root_.Go.ChangeSpec) : _root_.Go.OpenSpec := { _root_.Go.OpenSpec.ofChange s with cond := some uptoSmall }

/-- 'sheetmetallaw07.CutValidates', WHERE WHAT IT READS IS OF BULK AT MOST 1048576: true; the input reads as it did. -/
def cutValidatesUptoRow : OpenClaim := { program := "ytgfjbgoehhnaeaagreat", sum := "8cb248786a542c6007d4906edd17f4596183cdfb23676ab55c04ee6eba23ae9d", func := "sheetmetal/sheetmetallaw07.CutValidates", spec := "cutValidates", inPlace := ["internal/bytealg.IndexByteString", "internal/bytealg.IndexString"], unfollowed := true, recurses := true, named := ["internal/bytealg.MaxLen"], apart := false, narrowed := true }
def CutValidatesUptoSaid : Prop := cutValidatesUptoRow.holds Tryz.pinned (OpenSpec.upto cutValidatesSpec)

/-- 'sheetmetallaw07.CutEdges', WHERE WHAT IT READS IS OF BULK AT MOST 1048576: true; the input reads as it did. -/
def cutEdgesUptoRow : OpenClaim := { program := "ytgfjbgoehhnaeaagreat", sum := "8cb248786a542c6007d4906edd17f4596183cdfb23676ab55c04ee6eba23ae9d", func := "sheetmetal/sheetmetallaw07.CutEdges", spec := "cutEdges", inPlace := ["internal/bytealg.IndexByteString", "internal/bytealg.IndexString"], unfollowed := true, recurses := true, named := ["internal/bytealg.MaxLen"], apart := false, narrowed := true }
def CutEdgesUptoSaid : Prop := cutEdgesUptoRow.holds Tryz.pinned (OpenSpec.upto cutEdgesSpec)

/-- 'sheetmetallaw07.CutDoes', WHERE WHAT IT READS IS OF BULK AT MOST 1048576: true; the input reads as it did. -/
def cutDoesUptoRow : OpenClaim := { program := "ytgfjbgoehhnaeaagreat", sum := "8cb248786a542c6007d4906edd17f4596183cdfb23676ab55c04ee6eba23ae9d", func := "sheetmetal/sheetmetallaw07.CutDoes", spec := "cutDoes", inPlace := ["internal/bytealg.IndexByteString", "internal/bytealg.IndexString"], unfollowed := true, recurses := true, named := ["internal/bytealg.MaxLen"], apart := false, narrowed := true }
def CutDoesUptoSaid : Prop := cutDoesUptoRow.holds Tryz.pinned (OpenSpec.upto cutDoesSpec)

/-- 'sheetmetallaw07.CutRuns', WHERE WHAT IT READS IS OF BULK AT MOST 1048576: true; the input reads as it did. -/
def cutRunsUptoRow : OpenClaim := { program := "ytgfjbgoehhnaeaagreat", sum := "8cb248786a542c6007d4906edd17f4596183cdfb23676ab55c04ee6eba23ae9d", func := "sheetmetal/sheetmetallaw07.CutRuns", spec := "cutRuns", inPlace := ["internal/bytealg.IndexByteString", "internal/bytealg.IndexString"], unfollowed := true, recurses := true, named := ["internal/bytealg.MaxLen"], apart := false, narrowed := true }
def CutRunsUptoSaid : Prop := cutRunsUptoRow.holds Tryz.pinned (OpenSpec.upto cutRunsSpec)

/-- 'sheetmetallaw07.CutFalls', WHERE WHAT IT READS IS OF BULK AT MOST 1048576: true; the input reads as it did. -/
def cutFallsUptoRow : OpenClaim := { program := "ytgfjbgoehhnaeaagreat", sum := "8cb248786a542c6007d4906edd17f4596183cdfb23676ab55c04ee6eba23ae9d", func := "sheetmetal/sheetmetallaw07.CutFalls", spec := "cutFalls", inPlace := ["internal/bytealg.IndexByteString", "internal/bytealg.IndexString"], unfollowed := true, recurses := true, named := ["internal/bytealg.MaxLen"], apart := false, narrowed := true }
def CutFallsUptoSaid : Prop := cutFallsUptoRow.holds Tryz.pinned (OpenSpec.upto cutFallsSpec)

/-- 'sheetmetallaw07.CutPlans', WHERE WHAT IT READS IS OF BULK AT MOST 1048576: true; the input reads as it did. -/
def cutPlansUptoRow : OpenClaim := { program := "ytgfjbgoehhnaeaagreat", sum := "8cb248786a542c6007d4906edd17f4596183cdfb23676ab55c04ee6eba23ae9d", func := "sheetmetal/sheetmetallaw07.CutPlans", spec := "cutPlans", inPlace := ["internal/bytealg.IndexByteString", "internal/bytealg.IndexString"], unfollowed := true, recurses := true, named := ["internal/bytealg.MaxLen"], apart := false, narrowed := true }
def CutPlansUptoSaid : Prop := cutPlansUptoRow.holds Tryz.pinned (OpenSpec.upto cutPlansSpec)

/-- 'sheetmetallaw07.CutBorders', WHERE WHAT IT READS IS OF BULK AT MOST 1048576: true; the input reads as it did. -/
def cutBordersUptoRow : OpenClaim := { program := "ytgfjbgoehhnaeaagreat", sum := "8cb248786a542c6007d4906edd17f4596183cdfb23676ab55c04ee6eba23ae9d", func := "sheetmetal/sheetmetallaw07.CutBorders", spec := "cutBorders", inPlace := ["internal/bytealg.IndexByteString", "internal/bytealg.IndexString"], unfollowed := true, recurses := true, named := ["internal/bytealg.MaxLen"], apart := false, narrowed := true }
def CutBordersUptoSaid : Prop := cutBordersUptoRow.holds Tryz.pinned (OpenSpec.upto cutBordersSpec)

/-- 'sheetmetallaw07.CutLayouts', WHERE WHAT IT READS IS OF BULK AT MOST 1048576: true; the input reads as it did. -/
def cutLayoutsUptoRow : OpenClaim := { program := "ytgfjbgoehhnaeaagreat", sum := "8cb248786a542c6007d4906edd17f4596183cdfb23676ab55c04ee6eba23ae9d", func := "sheetmetal/sheetmetallaw07.CutLayouts", spec := "cutLayouts", inPlace := ["internal/bytealg.IndexByteString", "internal/bytealg.IndexString"], unfollowed := true, recurses := true, named := ["internal/bytealg.MaxLen"], apart := false, narrowed := true }
def CutLayoutsUptoSaid : Prop := cutLayoutsUptoRow.holds Tryz.pinned (OpenSpec.upto cutLayoutsSpec)

end Rows
end Go.Proofs.YtgfjbgoehhnaeaaGreat
