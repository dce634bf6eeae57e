/-
  No cell of these rows narrows 'for every input' (looked for: loops, veiled, ifaces, maps, wideKeys, modest, calm, conditions, laid).
  DERIVED. THE GIVEN ROWS OF THIS SEAT. 12 by the template 'for every input the law returns true; each argument reads behind the call as it read before'; 0 by the template 'total and deterministic' (their statements: YtonmponhpfpokaaGreatRTotals.lean).
  GIVEN WITH THE SEED: the statements are not yours to turn. If you find one false, say at which input.
  Laid BY PROGRAM, IN A SANDBOX (cutbox-rows.mjs): the forced cells as the released guide's own fill.sh prints them over the translation 4551f4f4921c034c… (all of the seat's roots in one cut). By AI agents, Wed Nov 11 2026. No macro, syntax, notation, axiom, sorry.
-/
import Derived.Test.YtonmponhpfpokaaGreatRChecked
import GoSem.Claim
import GoSem.ClaimJoined
import GoSem.ClaimMapViews
import Derived.JoinedTies
import Derived.KernelRfl
namespace Go.Proofs.YtonmponhpfpokaaGreatR
/- THE CELL 'sum', in the pinned program and in every row, IS THE sha256 OF THE DUMP (.gsa) THAT YtonmponhpfpokaaGreatRProg.lean LOADS. Nothing in Lean hashes anything: it is a label: what it is worth is what the hold of that sum in a sandbox is worth. -/
noncomputable def Tryz.pinned : Pinned := { name := "ytonmponhpfpokaagreatr", sum := "4551f4f4921c034c377f0444669aca27fbe6597c3fd8bb16388dc749411c48ba", checked := Tryz.checked }
namespace Rows
def none {H : Type} : Left H := { results := [], args := [] }

/-- 'sheetmetallaw06.NestValidates': WHATEVER THE INPUT: true; the input reads as it did. -/
def nestValidatesSpec : ChangeSpec := { name := "nestValidates", fn := fun _ => fun
  | [d1, d2, d3] => { results := [.lit (.bool true)], args := [d1, d2, d3] }
  | _ => none }
def nestValidatesRow : OpenClaim := { program := "ytonmponhpfpokaagreatr", sum := "4551f4f4921c034c377f0444669aca27fbe6597c3fd8bb16388dc749411c48ba", func := "sheetmetal/sheetmetallaw06.NestValidates", spec := "nestValidates", inPlace := ["internal/bytealg.IndexByteString", "internal/bytealg.IndexString"], unfollowed := true, recurses := true, named := ["internal/bytealg.MaxLen"], apart := false }
def NestValidatesSaid : Prop := nestValidatesRow.holds Tryz.pinned (OpenSpec.ofChange nestValidatesSpec)

/-- ITS FALSE NEIGHBOUR: 'it returns false'. Refute it at one input. -/
def nestValidatesWrong : ChangeSpec := { name := "nestValidates", fn := fun _ => fun
  | [d1, d2, d3] => { results := [.lit (.bool false)], args := [d1, d2, d3] }
  | _ => none }
def NestValidatesWrongFalsely : Prop := nestValidatesRow.holds Tryz.pinned (OpenSpec.ofChange nestValidatesWrong)

/-- 'sheetmetallaw06.NestAllows': WHATEVER THE INPUT: true; the input reads as it did. -/
def nestAllowsSpec : ChangeSpec := { name := "nestAllows", fn := fun _ => fun
  | [d1, d2, d3] => { results := [.lit (.bool true)], args := [d1, d2, d3] }
  | _ => none }
def nestAllowsRow : OpenClaim := { program := "ytonmponhpfpokaagreatr", sum := "4551f4f4921c034c377f0444669aca27fbe6597c3fd8bb16388dc749411c48ba", func := "sheetmetal/sheetmetallaw06.NestAllows", spec := "nestAllows", inPlace := ["internal/bytealg.IndexByteString", "internal/bytealg.IndexString"], unfollowed := true, recurses := true, named := ["internal/bytealg.MaxLen"], apart := false }
def NestAllowsSaid : Prop := nestAllowsRow.holds Tryz.pinned (OpenSpec.ofChange nestAllowsSpec)

/-- ITS FALSE NEIGHBOUR: 'it returns false'. Refute it at one input. -/
def nestAllowsWrong : ChangeSpec := { name := "nestAllows", fn := fun _ => fun
  | [d1, d2, d3] => { results := [.lit (.bool false)], args := [d1, d2, d3] }
  | _ => none }
def NestAllowsWrongFalsely : Prop := nestAllowsRow.holds Tryz.pinned (OpenSpec.ofChange nestAllowsWrong)

/-- 'sheetmetallaw06.NestFits': WHATEVER THE INPUT: true; the input reads as it did. -/
def nestFitsSpec : ChangeSpec := { name := "nestFits", fn := fun _ => fun
  | [d1, d2, d3] => { results := [.lit (.bool true)], args := [d1, d2, d3] }
  | _ => none }
def nestFitsRow : OpenClaim := { program := "ytonmponhpfpokaagreatr", sum := "4551f4f4921c034c377f0444669aca27fbe6597c3fd8bb16388dc749411c48ba", func := "sheetmetal/sheetmetallaw06.NestFits", spec := "nestFits", inPlace := ["internal/bytealg.IndexByteString", "internal/bytealg.IndexString"], unfollowed := true, recurses := true, named := ["internal/bytealg.MaxLen"], apart := false }
def NestFitsSaid : Prop := nestFitsRow.holds Tryz.pinned (OpenSpec.ofChange nestFitsSpec)

/-- ITS FALSE NEIGHBOUR: 'it returns false'. Refute it at one input. -/
def nestFitsWrong : ChangeSpec := { name := "nestFits", fn := fun _ => fun
  | [d1, d2, d3] => { results := [.lit (.bool false)], args := [d1, d2, d3] }
  | _ => none }
def NestFitsWrongFalsely : Prop := nestFitsRow.holds Tryz.pinned (OpenSpec.ofChange nestFitsWrong)

/-- 'sheetmetallaw06.NestClears': WHATEVER THE INPUT: true; the input reads as it did. -/
def nestClearsSpec : ChangeSpec := { name := "nestClears", fn := fun _ => fun
  | [d1, d2, d3] => { results := [.lit (.bool true)], args := [d1, d2, d3] }
  | _ => none }
def nestClearsRow : OpenClaim := { program := "ytonmponhpfpokaagreatr", sum := "4551f4f4921c034c377f0444669aca27fbe6597c3fd8bb16388dc749411c48ba", func := "sheetmetal/sheetmetallaw06.NestClears", spec := "nestClears", inPlace := ["internal/bytealg.IndexByteString", "internal/bytealg.IndexString"], unfollowed := true, recurses := true, named := ["internal/bytealg.MaxLen"], apart := false }
def NestClearsSaid : Prop := nestClearsRow.holds Tryz.pinned (OpenSpec.ofChange nestClearsSpec)

/-- ITS FALSE NEIGHBOUR: 'it returns false'. Refute it at one input. -/
def nestClearsWrong : ChangeSpec := { name := "nestClears", fn := fun _ => fun
  | [d1, d2, d3] => { results := [.lit (.bool false)], args := [d1, d2, d3] }
  | _ => none }
def NestClearsWrongFalsely : Prop := nestClearsRow.holds Tryz.pinned (OpenSpec.ofChange nestClearsWrong)

/-- 'sheetmetallaw06.NestPuts': WHATEVER THE INPUT: true; the input reads as it did. -/
def nestPutsSpec : ChangeSpec := { name := "nestPuts", fn := fun _ => fun
  | [d1, d2] => { results := [.lit (.bool true)], args := [d1, d2] }
  | _ => none }
def nestPutsRow : OpenClaim := { program := "ytonmponhpfpokaagreatr", sum := "4551f4f4921c034c377f0444669aca27fbe6597c3fd8bb16388dc749411c48ba", func := "sheetmetal/sheetmetallaw06.NestPuts", spec := "nestPuts", inPlace := ["internal/bytealg.IndexByteString", "internal/bytealg.IndexString"], unfollowed := true, recurses := true, named := ["internal/bytealg.MaxLen"], apart := false }
def NestPutsSaid : Prop := nestPutsRow.holds Tryz.pinned (OpenSpec.ofChange nestPutsSpec)

/-- ITS FALSE NEIGHBOUR: 'it returns false'. Refute it at one input. -/
def nestPutsWrong : ChangeSpec := { name := "nestPuts", fn := fun _ => fun
  | [d1, d2] => { results := [.lit (.bool false)], args := [d1, d2] }
  | _ => none }
def NestPutsWrongFalsely : Prop := nestPutsRow.holds Tryz.pinned (OpenSpec.ofChange nestPutsWrong)

/-- 'sheetmetallaw06.NestTurns': WHATEVER THE INPUT: true; the input reads as it did. -/
def nestTurnsSpec : ChangeSpec := { name := "nestTurns", fn := fun _ => fun
  | [d1, d2, d3] => { results := [.lit (.bool true)], args := [d1, d2, d3] }
  | _ => none }
def nestTurnsRow : OpenClaim := { program := "ytonmponhpfpokaagreatr", sum := "4551f4f4921c034c377f0444669aca27fbe6597c3fd8bb16388dc749411c48ba", func := "sheetmetal/sheetmetallaw06.NestTurns", spec := "nestTurns", inPlace := ["internal/bytealg.IndexByteString", "internal/bytealg.IndexString"], unfollowed := true, recurses := true, named := ["internal/bytealg.MaxLen"], apart := false }
def NestTurnsSaid : Prop := nestTurnsRow.holds Tryz.pinned (OpenSpec.ofChange nestTurnsSpec)

/-- ITS FALSE NEIGHBOUR: 'it returns false'. Refute it at one input. -/
def nestTurnsWrong : ChangeSpec := { name := "nestTurns", fn := fun _ => fun
  | [d1, d2, d3] => { results := [.lit (.bool false)], args := [d1, d2, d3] }
  | _ => none }
def NestTurnsWrongFalsely : Prop := nestTurnsRow.holds Tryz.pinned (OpenSpec.ofChange nestTurnsWrong)

/-- 'sheetmetallaw06.NestLowest': WHATEVER THE INPUT: true; the input reads as it did. -/
def nestLowestSpec : ChangeSpec := { name := "nestLowest", fn := fun _ => fun
  | [d1, d2, d3] => { results := [.lit (.bool true)], args := [d1, d2, d3] }
  | _ => none }
def nestLowestRow : OpenClaim := { program := "ytonmponhpfpokaagreatr", sum := "4551f4f4921c034c377f0444669aca27fbe6597c3fd8bb16388dc749411c48ba", func := "sheetmetal/sheetmetallaw06.NestLowest", spec := "nestLowest", inPlace := ["internal/bytealg.IndexByteString", "internal/bytealg.IndexString"], unfollowed := true, recurses := true, named := ["internal/bytealg.MaxLen"], apart := false }
def NestLowestSaid : Prop := nestLowestRow.holds Tryz.pinned (OpenSpec.ofChange nestLowestSpec)

/-- ITS FALSE NEIGHBOUR: 'it returns false'. Refute it at one input. -/
def nestLowestWrong : ChangeSpec := { name := "nestLowest", fn := fun _ => fun
  | [d1, d2, d3] => { results := [.lit (.bool false)], args := [d1, d2, d3] }
  | _ => none }
def NestLowestWrongFalsely : Prop := nestLowestRow.holds Tryz.pinned (OpenSpec.ofChange nestLowestWrong)

/-- 'sheetmetallaw06.NestChecks': WHATEVER THE INPUT: true; the input reads as it did. -/
def nestChecksSpec : ChangeSpec := { name := "nestChecks", fn := fun _ => fun
  | [d1, d2] => { results := [.lit (.bool true)], args := [d1, d2] }
  | _ => none }
def nestChecksRow : OpenClaim := { program := "ytonmponhpfpokaagreatr", sum := "4551f4f4921c034c377f0444669aca27fbe6597c3fd8bb16388dc749411c48ba", func := "sheetmetal/sheetmetallaw06.NestChecks", spec := "nestChecks", inPlace := ["internal/bytealg.IndexByteString", "internal/bytealg.IndexString"], unfollowed := true, recurses := true, named := ["internal/bytealg.MaxLen"], apart := false }
def NestChecksSaid : Prop := nestChecksRow.holds Tryz.pinned (OpenSpec.ofChange nestChecksSpec)

/-- ITS FALSE NEIGHBOUR: 'it returns false'. Refute it at one input. -/
def nestChecksWrong : ChangeSpec := { name := "nestChecks", fn := fun _ => fun
  | [d1, d2] => { results := [.lit (.bool false)], args := [d1, d2] }
  | _ => none }
def NestChecksWrongFalsely : Prop := nestChecksRow.holds Tryz.pinned (OpenSpec.ofChange nestChecksWrong)

/-- 'sheetmetallaw06.NestNests': WHATEVER THE INPUT: true; the input reads as it did. -/
def nestNestsSpec : ChangeSpec := { name := "nestNests", fn := fun _ => fun
  | [d] => { results := [.lit (.bool true)], args := [d] }
  | _ => none }
def nestNestsRow : OpenClaim := { program := "ytonmponhpfpokaagreatr", sum := "4551f4f4921c034c377f0444669aca27fbe6597c3fd8bb16388dc749411c48ba", func := "sheetmetal/sheetmetallaw06.NestNests", spec := "nestNests", inPlace := ["internal/bytealg.IndexByteString", "internal/bytealg.IndexString"], unfollowed := true, recurses := true, named := ["internal/bytealg.MaxLen"], apart := false }
def NestNestsSaid : Prop := nestNestsRow.holds Tryz.pinned (OpenSpec.ofChange nestNestsSpec)

/-- ITS FALSE NEIGHBOUR: 'it returns false'. Refute it at one input. -/
def nestNestsWrong : ChangeSpec := { name := "nestNests", fn := fun _ => fun
  | [d] => { results := [.lit (.bool false)], args := [d] }
  | _ => none }
def NestNestsWrongFalsely : Prop := nestNestsRow.holds Tryz.pinned (OpenSpec.ofChange nestNestsWrong)

/-- 'sheetmetallaw06.NestExceeds': WHATEVER THE INPUT: true; the input reads as it did. -/
def nestExceedsSpec : ChangeSpec := { name := "nestExceeds", fn := fun _ => fun
  | [d1, d2] => { results := [.lit (.bool true)], args := [d1, d2] }
  | _ => none }
def nestExceedsRow : OpenClaim := { program := "ytonmponhpfpokaagreatr", sum := "4551f4f4921c034c377f0444669aca27fbe6597c3fd8bb16388dc749411c48ba", func := "sheetmetal/sheetmetallaw06.NestExceeds", spec := "nestExceeds", inPlace := ["internal/bytealg.IndexByteString", "internal/bytealg.IndexString"], unfollowed := true, recurses := true, named := ["internal/bytealg.MaxLen"], apart := false }
def NestExceedsSaid : Prop := nestExceedsRow.holds Tryz.pinned (OpenSpec.ofChange nestExceedsSpec)

/-- ITS FALSE NEIGHBOUR: 'it returns false'. Refute it at one input. -/
def nestExceedsWrong : ChangeSpec := { name := "nestExceeds", fn := fun _ => fun
  | [d1, d2] => { results := [.lit (.bool false)], args := [d1, d2] }
  | _ => none }
def NestExceedsWrongFalsely : Prop := nestExceedsRow.holds Tryz.pinned (OpenSpec.ofChange nestExceedsWrong)

/-- 'sheetmetallaw06.NestCommon': WHATEVER THE INPUT: true; the input reads as it did. -/
def nestCommonSpec : ChangeSpec := { name := "nestCommon", fn := fun _ => fun
  | [d1, d2] => { results := [.lit (.bool true)], args := [d1, d2] }
  | _ => none }
def nestCommonRow : OpenClaim := { program := "ytonmponhpfpokaagreatr", sum := "4551f4f4921c034c377f0444669aca27fbe6597c3fd8bb16388dc749411c48ba", func := "sheetmetal/sheetmetallaw06.NestCommon", spec := "nestCommon", inPlace := ["internal/bytealg.IndexByteString", "internal/bytealg.IndexString"], unfollowed := true, recurses := true, named := ["internal/bytealg.MaxLen"], apart := false }
def NestCommonSaid : Prop := nestCommonRow.holds Tryz.pinned (OpenSpec.ofChange nestCommonSpec)

/-- ITS FALSE NEIGHBOUR: 'it returns false'. Refute it at one input. -/
def nestCommonWrong : ChangeSpec := { name := "nestCommon", fn := fun _ => fun
  | [d1, d2] => { results := [.lit (.bool false)], args := [d1, d2] }
  | _ => none }
def NestCommonWrongFalsely : Prop := nestCommonRow.holds Tryz.pinned (OpenSpec.ofChange nestCommonWrong)

/-- 'sheetmetallaw06.NestRemnants': WHATEVER THE INPUT: true; the input reads as it did. -/
def nestRemnantsSpec : ChangeSpec := { name := "nestRemnants", fn := fun _ => fun
  | [d1, d2] => { results := [.lit (.bool true)], args := [d1, d2] }
  | _ => none }
def nestRemnantsRow : OpenClaim := { program := "ytonmponhpfpokaagreatr", sum := "4551f4f4921c034c377f0444669aca27fbe6597c3fd8bb16388dc749411c48ba", func := "sheetmetal/sheetmetallaw06.NestRemnants", spec := "nestRemnants", inPlace := ["internal/bytealg.IndexByteString", "internal/bytealg.IndexString"], unfollowed := true, recurses := true, named := ["internal/bytealg.MaxLen"], apart := false }
def NestRemnantsSaid : Prop := nestRemnantsRow.holds Tryz.pinned (OpenSpec.ofChange nestRemnantsSpec)

/-- ITS FALSE NEIGHBOUR: 'it returns false'. Refute it at one input. -/
def nestRemnantsWrong : ChangeSpec := { name := "nestRemnants", fn := fun _ => fun
  | [d1, d2] => { results := [.lit (.bool false)], args := [d1, d2] }
  | _ => none }
def NestRemnantsWrongFalsely : Prop := nestRemnantsRow.holds Tryz.pinned (OpenSpec.ofChange nestRemnantsWrong)

/- THE SECOND FORM. 'bulk': how many values and letters a reading holds, each counted each time it is reached (what is shared counts as often as it is met; a slice's spare places count too). A statement '..UptoSaid' is the law's where the arguments, and the package variables that the reading takes, are together of bulk at most 1048576: NARROWER than '..Said'. Prove '..Said' where nothing that the law and all that it calls make is longer than what came in: it says more and counts as full. Else prove '..UptoSaid'. A law counts once. -/
mutual
def uptoBulk {H : Type} : DataW H → Nat
  | .lit (.string bytes) => bytes.length + 1
  | .lit _ => 1
  | .nil => 1
  | .ptr d => uptoBulk d + 1
  | .slice elems spare => uptoBulkAll elems + uptoBulkAll spare + 1
  | .agg parts => uptoBulkAll parts + 1
  | .iface _ d => uptoBulk d + 1
  | .map entries => uptoBulkEntries entries + 1
  | .held _ => 1
def uptoBulkAll {H : Type} : List (DataW H) → Nat
  | [] => 0
  | d :: r => uptoBulk d + uptoBulkAll r
def uptoBulkEntries {H : Type} : List (Lit × DataW H) → Nat
  | [] => 0
  | x :: r => uptoBulkEntry x + uptoBulkEntries r
def uptoBulkEntry {H : Type} : Lit × DataW H → Nat
  | (.string bytes, d) => bytes.length + uptoBulk d + 1
  | (_, d) => uptoBulk d + 1
 end
def uptoSmall : (H : Type) → List (DataW H) → Bool := fun _ ds => decide (uptoBulkAll ds ≤ 1048576)
def OpenSpec.upto (s : _root_.Go.ChangeSpec) : _root_.Go.OpenSpec := { _root_.Go.OpenSpec.ofChange s with cond := some uptoSmall }

/-- 'sheetmetallaw06.NestValidates', WHERE WHAT IT READS IS OF BULK AT MOST 1048576: true; the input reads as it did. -/
def nestValidatesUptoRow : OpenClaim := { program := "ytonmponhpfpokaagreatr", sum := "4551f4f4921c034c377f0444669aca27fbe6597c3fd8bb16388dc749411c48ba", func := "sheetmetal/sheetmetallaw06.NestValidates", spec := "nestValidates", inPlace := ["internal/bytealg.IndexByteString", "internal/bytealg.IndexString"], unfollowed := true, recurses := true, named := ["internal/bytealg.MaxLen"], apart := false, narrowed := true }
def NestValidatesUptoSaid : Prop := nestValidatesUptoRow.holds Tryz.pinned (OpenSpec.upto nestValidatesSpec)

/-- 'sheetmetallaw06.NestAllows', WHERE WHAT IT READS IS OF BULK AT MOST 1048576: true; the input reads as it did. -/
def nestAllowsUptoRow : OpenClaim := { program := "ytonmponhpfpokaagreatr", sum := "4551f4f4921c034c377f0444669aca27fbe6597c3fd8bb16388dc749411c48ba", func := "sheetmetal/sheetmetallaw06.NestAllows", spec := "nestAllows", inPlace := ["internal/bytealg.IndexByteString", "internal/bytealg.IndexString"], unfollowed := true, recurses := true, named := ["internal/bytealg.MaxLen"], apart := false, narrowed := true }
def NestAllowsUptoSaid : Prop := nestAllowsUptoRow.holds Tryz.pinned (OpenSpec.upto nestAllowsSpec)

/-- 'sheetmetallaw06.NestFits', WHERE WHAT IT READS IS OF BULK AT MOST 1048576: true; the input reads as it did. -/
def nestFitsUptoRow : OpenClaim := { program := "ytonmponhpfpokaagreatr", sum := "4551f4f4921c034c377f0444669aca27fbe6597c3fd8bb16388dc749411c48ba", func := "sheetmetal/sheetmetallaw06.NestFits", spec := "nestFits", inPlace := ["internal/bytealg.IndexByteString", "internal/bytealg.IndexString"], unfollowed := true, recurses := true, named := ["internal/bytealg.MaxLen"], apart := false, narrowed := true }
def NestFitsUptoSaid : Prop := nestFitsUptoRow.holds Tryz.pinned (OpenSpec.upto nestFitsSpec)

/-- 'sheetmetallaw06.NestClears', WHERE WHAT IT READS IS OF BULK AT MOST 1048576: true; the input reads as it did. -/
def nestClearsUptoRow : OpenClaim := { program := "ytonmponhpfpokaagreatr", sum := "4551f4f4921c034c377f0444669aca27fbe6597c3fd8bb16388dc749411c48ba", func := "sheetmetal/sheetmetallaw06.NestClears", spec := "nestClears", inPlace := ["internal/bytealg.IndexByteString", "internal/bytealg.IndexString"], unfollowed := true, recurses := true, named := ["internal/bytealg.MaxLen"], apart := false, narrowed := true }
def NestClearsUptoSaid : Prop := nestClearsUptoRow.holds Tryz.pinned (OpenSpec.upto nestClearsSpec)

/-- 'sheetmetallaw06.NestPuts', WHERE WHAT IT READS IS OF BULK AT MOST 1048576: true; the input reads as it did. -/
def nestPutsUptoRow : OpenClaim := { program := "ytonmponhpfpokaagreatr", sum := "4551f4f4921c034c377f0444669aca27fbe6597c3fd8bb16388dc749411c48ba", func := "sheetmetal/sheetmetallaw06.NestPuts", spec := "nestPuts", inPlace := ["internal/bytealg.IndexByteString", "internal/bytealg.IndexString"], unfollowed := true, recurses := true, named := ["internal/bytealg.MaxLen"], apart := false, narrowed := true }
def NestPutsUptoSaid : Prop := nestPutsUptoRow.holds Tryz.pinned (OpenSpec.upto nestPutsSpec)

/-- 'sheetmetallaw06.NestTurns', WHERE WHAT IT READS IS OF BULK AT MOST 1048576: true; the input reads as it did. -/
def nestTurnsUptoRow : OpenClaim := { program := "ytonmponhpfpokaagreatr", sum := "4551f4f4921c034c377f0444669aca27fbe6597c3fd8bb16388dc749411c48ba", func := "sheetmetal/sheetmetallaw06.NestTurns", spec := "nestTurns", inPlace := ["internal/bytealg.IndexByteString", "internal/bytealg.IndexString"], unfollowed := true, recurses := true, named := ["internal/bytealg.MaxLen"], apart := false, narrowed := true }
def NestTurnsUptoSaid : Prop := nestTurnsUptoRow.holds Tryz.pinned (OpenSpec.upto nestTurnsSpec)

/-- 'sheetmetallaw06.NestLowest', WHERE WHAT IT READS IS OF BULK AT MOST 1048576: true; the input reads as it did. -/
def nestLowestUptoRow : OpenClaim := { program := "ytonmponhpfpokaagreatr", sum := "4551f4f4921c034c377f0444669aca27fbe6597c3fd8bb16388dc749411c48ba", func := "sheetmetal/sheetmetallaw06.NestLowest", spec := "nestLowest", inPlace := ["internal/bytealg.IndexByteString", "internal/bytealg.IndexString"], unfollowed := true, recurses := true, named := ["internal/bytealg.MaxLen"], apart := false, narrowed := true }
def NestLowestUptoSaid : Prop := nestLowestUptoRow.holds Tryz.pinned (OpenSpec.upto nestLowestSpec)

/-- 'sheetmetallaw06.NestChecks', WHERE WHAT IT READS IS OF BULK AT MOST 1048576: true; the input reads as it did. -/
def nestChecksUptoRow : OpenClaim := { program := "ytonmponhpfpokaagreatr", sum := "4551f4f4921c034c377f0444669aca27fbe6597c3fd8bb16388dc749411c48ba", func := "sheetmetal/sheetmetallaw06.NestChecks", spec := "nestChecks", inPlace := ["internal/bytealg.IndexByteString", "internal/bytealg.IndexString"], unfollowed := true, recurses := true, named := ["internal/bytealg.MaxLen"], apart := false, narrowed := true }
def NestChecksUptoSaid : Prop := nestChecksUptoRow.holds Tryz.pinned (OpenSpec.upto nestChecksSpec)

/-- 'sheetmetallaw06.NestNests', WHERE WHAT IT READS IS OF BULK AT MOST 1048576: true; the input reads as it did. -/
def nestNestsUptoRow : OpenClaim := { program := "ytonmponhpfpokaagreatr", sum := "4551f4f4921c034c377f0444669aca27fbe6597c3fd8bb16388dc749411c48ba", func := "sheetmetal/sheetmetallaw06.NestNests", spec := "nestNests", inPlace := ["internal/bytealg.IndexByteString", "internal/bytealg.IndexString"], unfollowed := true, recurses := true, named := ["internal/bytealg.MaxLen"], apart := false, narrowed := true }
def NestNestsUptoSaid : Prop := nestNestsUptoRow.holds Tryz.pinned (OpenSpec.upto nestNestsSpec)

/-- 'sheetmetallaw06.NestExceeds', WHERE WHAT IT READS IS OF BULK AT MOST 1048576: true; the input reads as it did. -/
def nestExceedsUptoRow : OpenClaim := { program := "ytonmponhpfpokaagreatr", sum := "4551f4f4921c034c377f0444669aca27fbe6597c3fd8bb16388dc749411c48ba", func := "sheetmetal/sheetmetallaw06.NestExceeds", spec := "nestExceeds", inPlace := ["internal/bytealg.IndexByteString", "internal/bytealg.IndexString"], unfollowed := true, recurses := true, named := ["internal/bytealg.MaxLen"], apart := false, narrowed := true }
def NestExceedsUptoSaid : Prop := nestExceedsUptoRow.holds Tryz.pinned (OpenSpec.upto nestExceedsSpec)

/-- 'sheetmetallaw06.NestCommon', WHERE WHAT IT READS IS OF BULK AT MOST 1048576: true; the input reads as it did. -/
def nestCommonUptoRow : OpenClaim := { program := "ytonmponhpfpokaagreatr", sum := "4551f4f4921c034c377f0444669aca27fbe6597c3fd8bb16388dc749411c48ba", func := "sheetmetal/sheetmetallaw06.NestCommon", spec := "nestCommon", inPlace := ["internal/bytealg.IndexByteString", "internal/bytealg.IndexString"], unfollowed := true, recurses := true, named := ["internal/bytealg.MaxLen"], apart := false, narrowed := true }
def NestCommonUptoSaid : Prop := nestCommonUptoRow.holds Tryz.pinned (OpenSpec.upto nestCommonSpec)

/-- 'sheetmetallaw06.NestRemnants', WHERE WHAT IT READS IS OF BULK AT MOST 1048576: true; the input reads as it did. -/
def nestRemnantsUptoRow : OpenClaim := { program := "ytonmponhpfpokaagreatr", sum := "4551f4f4921c034c377f0444669aca27fbe6597c3fd8bb16388dc749411c48ba", func := "sheetmetal/sheetmetallaw06.NestRemnants", spec := "nestRemnants", inPlace := ["internal/bytealg.IndexByteString", "internal/bytealg.IndexString"], unfollowed := true, recurses := true, named := ["internal/bytealg.MaxLen"], apart := false, narrowed := true }
def NestRemnantsUptoSaid : Prop := nestRemnantsUptoRow.holds Tryz.pinned (OpenSpec.upto nestRemnantsSpec)

end Rows
end Go.Proofs.YtonmponhpfpokaaGreatR
