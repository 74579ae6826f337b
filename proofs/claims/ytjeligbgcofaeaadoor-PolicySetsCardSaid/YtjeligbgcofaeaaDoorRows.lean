/-
  NARROWER THAN 'FOR EVERY INPUT', by the rows' own cells (each row's printed sentence says how): RulesActs: laid · PolicyRuns: loops, laid · PolicyLaws: loops, laid · PolicySets: laid · PolicyChecks: loops, laid · PolicyFilters: loops, laid.
  DERIVED. THE GIVEN ROWS OF THIS SEAT. 6 by the template 'for every input the law returns true; each argument reads behind the call as it read before'; 0 by the template 'total and deterministic' (their statements: YtjeligbgcofaeaaDoorTotals.lean).
  GIVEN WITH THE SEED: the statements are not yours to turn. If you find one false, say at which input.
  Laid BY PROGRAM, IN A SANDBOX (cutbox-rows.mjs): the forced cells as the released guide's own fill.sh prints them over the translation 7b4b87ebd8d70003… (all of the seat's roots in one cut). By AI agents, Wed Nov 11 2026. No macro, syntax, notation, axiom, sorry.
-/
import Derived.Test.YtjeligbgcofaeaaDoorChecked
import GoSem.Claim
import GoSem.ClaimJoined
import GoSem.ClaimMapViews
import Derived.JoinedTies
import Derived.KernelRfl
namespace Go.Proofs.YtjeligbgcofaeaaDoor
/- THE CELL 'sum', in the pinned program and in every row, IS THE sha256 OF THE DUMP (.gsa) THAT YtjeligbgcofaeaaDoorProg.lean LOADS. Nothing in Lean hashes anything: it is a label: what it is worth is what the hold of that sum in a sandbox is worth. -/
noncomputable def Tryd.pinned : Pinned := { name := "ytjeligbgcofaeaadoor", sum := "7b4b87ebd8d700031dd5a7915067733c7e782954f24457b00655bd02cc604b2e", checked := Tryd.checked }
namespace Rows
def none {H : Type} : Left H := { results := [], args := [] }

/- WHAT THE LISTED PACKAGE-LEVEL VARIABLES READ AS WHEN THE CALL BEGINS. Each datum BY PROGRAM (the guide's laid-datum.mjs) off the statement by which the dump's own 'gosem.cut.vars' lays the variable. In a bare row this is a premise. The card (YtjeligbgcofaeaaDoorCards.lean) ties it to the program's text. -/
def laid_carrefour_head_widths {H : Type} : DataW H := .agg [.lit (.int .i64 8), .lit (.int .i64 48), .lit (.int .i64 48), .lit (.int .i64 16), .lit (.int .i64 32), .lit (.int .i64 32), .lit (.int .i64 8), .lit (.int .i64 16), .lit (.int .i64 16)]

/-- 'carrefourlaw17.RulesActs': WHATEVER THE INPUT: true; the input reads as it did. -/
def rulesActsSpec : ChangeSpec := { name := "rulesActs", fn := fun _ => fun
  | [d1, d2, d3] => { results := [.lit (.bool true)], args := [d1, d2, d3] }
  | _ => none }
def rulesActsRow : OpenClaim := { program := "ytjeligbgcofaeaadoor", sum := "7b4b87ebd8d700031dd5a7915067733c7e782954f24457b00655bd02cc604b2e", func := "carrefour/carrefourlaw17.RulesActs", spec := "rulesActs", unfollowed := true, recurses := true, named := ["carrefour/head.widths"], apart := false, laid := [("carrefour/head.widths", laid_carrefour_head_widths)] }
def RulesActsSaid : Prop := rulesActsRow.holds Tryd.pinned (OpenSpec.ofChange rulesActsSpec)

/-- ITS FALSE NEIGHBOUR: 'it returns false'. Refute it at one input. -/
def rulesActsWrong : ChangeSpec := { name := "rulesActs", fn := fun _ => fun
  | [d1, d2, d3] => { results := [.lit (.bool false)], args := [d1, d2, d3] }
  | _ => none }
def RulesActsWrongFalsely : Prop := rulesActsRow.holds Tryd.pinned (OpenSpec.ofChange rulesActsWrong)

/-- 'carrefourlaw16.PolicyRuns': WHATEVER THE INPUT: true; the input reads as it did. -/
def policyRunsSpec : ChangeSpec := { name := "policyRuns", fn := fun _ => fun
  | [d1, d2] => { results := [.lit (.bool true)], args := [d1, d2] }
  | _ => none }
def policyRunsRow : OpenClaim := { program := "ytjeligbgcofaeaadoor", sum := "7b4b87ebd8d700031dd5a7915067733c7e782954f24457b00655bd02cc604b2e", func := "carrefour/carrefourlaw16.PolicyRuns", spec := "policyRuns", unfollowed := true, recurses := true, named := ["carrefour/head.widths"], loops := true, apart := false, laid := [("carrefour/head.widths", laid_carrefour_head_widths)] }
def PolicyRunsSaid : Prop := policyRunsRow.holds Tryd.pinned (OpenSpec.ofChange policyRunsSpec)

/-- ITS FALSE NEIGHBOUR: 'it returns false'. Refute it at one input. -/
def policyRunsWrong : ChangeSpec := { name := "policyRuns", fn := fun _ => fun
  | [d1, d2] => { results := [.lit (.bool false)], args := [d1, d2] }
  | _ => none }
def PolicyRunsWrongFalsely : Prop := policyRunsRow.holds Tryd.pinned (OpenSpec.ofChange policyRunsWrong)

/-- 'carrefourlaw16.PolicyLaws': WHATEVER THE INPUT: true; the input reads as it did. -/
def policyLawsSpec : ChangeSpec := { name := "policyLaws", fn := fun _ => fun
  | [d1, d2, d3, d4] => { results := [.lit (.bool true)], args := [d1, d2, d3, d4] }
  | _ => none }
def policyLawsRow : OpenClaim := { program := "ytjeligbgcofaeaadoor", sum := "7b4b87ebd8d700031dd5a7915067733c7e782954f24457b00655bd02cc604b2e", func := "carrefour/carrefourlaw16.PolicyLaws", spec := "policyLaws", unfollowed := true, recurses := true, named := ["carrefour/head.widths"], loops := true, apart := false, laid := [("carrefour/head.widths", laid_carrefour_head_widths)] }
def PolicyLawsSaid : Prop := policyLawsRow.holds Tryd.pinned (OpenSpec.ofChange policyLawsSpec)

/-- ITS FALSE NEIGHBOUR: 'it returns false'. Refute it at one input. -/
def policyLawsWrong : ChangeSpec := { name := "policyLaws", fn := fun _ => fun
  | [d1, d2, d3, d4] => { results := [.lit (.bool false)], args := [d1, d2, d3, d4] }
  | _ => none }
def PolicyLawsWrongFalsely : Prop := policyLawsRow.holds Tryd.pinned (OpenSpec.ofChange policyLawsWrong)

/-- 'carrefourlaw16.PolicySets': WHATEVER THE INPUT: true; the input reads as it did. -/
def policySetsSpec : ChangeSpec := { name := "policySets", fn := fun _ => fun
  | [d1, d2, d3, d4, d5] => { results := [.lit (.bool true)], args := [d1, d2, d3, d4, d5] }
  | _ => none }
def policySetsRow : OpenClaim := { program := "ytjeligbgcofaeaadoor", sum := "7b4b87ebd8d700031dd5a7915067733c7e782954f24457b00655bd02cc604b2e", func := "carrefour/carrefourlaw16.PolicySets", spec := "policySets", unfollowed := true, recurses := true, named := ["carrefour/head.widths"], apart := false, laid := [("carrefour/head.widths", laid_carrefour_head_widths)] }
def PolicySetsSaid : Prop := policySetsRow.holds Tryd.pinned (OpenSpec.ofChange policySetsSpec)

/-- ITS FALSE NEIGHBOUR: 'it returns false'. Refute it at one input. -/
def policySetsWrong : ChangeSpec := { name := "policySets", fn := fun _ => fun
  | [d1, d2, d3, d4, d5] => { results := [.lit (.bool false)], args := [d1, d2, d3, d4, d5] }
  | _ => none }
def PolicySetsWrongFalsely : Prop := policySetsRow.holds Tryd.pinned (OpenSpec.ofChange policySetsWrong)

/-- 'carrefourlaw16.PolicyChecks': WHATEVER THE INPUT: true; the input reads as it did. -/
def policyChecksSpec : ChangeSpec := { name := "policyChecks", fn := fun _ => fun
  | [d] => { results := [.lit (.bool true)], args := [d] }
  | _ => none }
def policyChecksRow : OpenClaim := { program := "ytjeligbgcofaeaadoor", sum := "7b4b87ebd8d700031dd5a7915067733c7e782954f24457b00655bd02cc604b2e", func := "carrefour/carrefourlaw16.PolicyChecks", spec := "policyChecks", unfollowed := true, recurses := true, named := ["carrefour/head.widths"], loops := true, apart := false, laid := [("carrefour/head.widths", laid_carrefour_head_widths)] }
def PolicyChecksSaid : Prop := policyChecksRow.holds Tryd.pinned (OpenSpec.ofChange policyChecksSpec)

/-- ITS FALSE NEIGHBOUR: 'it returns false'. Refute it at one input. -/
def policyChecksWrong : ChangeSpec := { name := "policyChecks", fn := fun _ => fun
  | [d] => { results := [.lit (.bool false)], args := [d] }
  | _ => none }
def PolicyChecksWrongFalsely : Prop := policyChecksRow.holds Tryd.pinned (OpenSpec.ofChange policyChecksWrong)

/-- 'carrefourlaw16.PolicyFilters': WHATEVER THE INPUT: true; the input reads as it did. -/
def policyFiltersSpec : ChangeSpec := { name := "policyFilters", fn := fun _ => fun
  | [d1, d2, d3, d4] => { results := [.lit (.bool true)], args := [d1, d2, d3, d4] }
  | _ => none }
def policyFiltersRow : OpenClaim := { program := "ytjeligbgcofaeaadoor", sum := "7b4b87ebd8d700031dd5a7915067733c7e782954f24457b00655bd02cc604b2e", func := "carrefour/carrefourlaw16.PolicyFilters", spec := "policyFilters", unfollowed := true, recurses := true, named := ["carrefour/head.widths"], loops := true, apart := false, laid := [("carrefour/head.widths", laid_carrefour_head_widths)] }
def PolicyFiltersSaid : Prop := policyFiltersRow.holds Tryd.pinned (OpenSpec.ofChange policyFiltersSpec)

/-- ITS FALSE NEIGHBOUR: 'it returns false'. Refute it at one input. -/
def policyFiltersWrong : ChangeSpec := { name := "policyFilters", fn := fun _ => fun
  | [d1, d2, d3, d4] => { results := [.lit (.bool false)], args := [d1, d2, d3, d4] }
  | _ => none }
def PolicyFiltersWrongFalsely : Prop := policyFiltersRow.holds Tryd.pinned (OpenSpec.ofChange policyFiltersWrong)

/- THE SECOND FORM. 'bulk': how many values and letters a reading holds, each counted each time it is reached (what is shared counts as often as it is met; a slice's spare places count too). A statement '..UptoSaid' is the law's where the arguments, and the package variables that the reading takes, are together of bulk at most 1048576: NARROWER than '..Said'. Prove '..Said' where nothing that the law and all that it calls make is longer than what came in: it says more and counts as full. Else prove '..UptoSaid'. A law counts once. -/
mutual
def uptoBulk {H : Type} : DataW H → Nat
  | .lit (.string bytes) => bytes.length + 1
  | .lit _ => 1
  | .nil => 1
  | .ptr d => uptoBulk d + 1
  | .slice elems spare => uptoBulkAll elems + uptoBulkAll spare + 1
  | .agg parts => uptoBulkAll parts + 1
  | .iface _ d => uptoBulk d + 1
  | .map entries => uptoBulkEntries entries + 1
  | .held _ => 1
def uptoBulkAll {H : Type} : List (DataW H) → Nat
  | [] => 0
  | d :: r => uptoBulk d + uptoBulkAll r
def uptoBulkEntries {H : Type} : List (Lit × DataW H) → Nat
  | [] => 0
  | x :: r => uptoBulkEntry x + uptoBulkEntries r
def uptoBulkEntry {H : Type} : Lit × DataW H → Nat
  | (.string bytes, d) => bytes.length + uptoBulk d + 1
  | (_, d) => uptoBulk d + 1
 end
def uptoSmall : (H : Type) → List (DataW H) → Bool := fun _ ds => decide (uptoBulkAll ds ≤ 1048576)
def OpenSpec.upto (s : _root_.Go.ChangeSpec) : _root_.Go.OpenSpec := { _root_.Go.OpenSpec.ofChange s with cond := some uptoSmall }

/-- 'carrefourlaw17.RulesActs', WHERE WHAT IT READS IS OF BULK AT MOST 1048576: true; the input reads as it did. -/
def rulesActsUptoRow : OpenClaim := { program := "ytjeligbgcofaeaadoor", sum := "7b4b87ebd8d700031dd5a7915067733c7e782954f24457b00655bd02cc604b2e", func := "carrefour/carrefourlaw17.RulesActs", spec := "rulesActs", unfollowed := true, recurses := true, named := ["carrefour/head.widths"], apart := false, laid := [("carrefour/head.widths", laid_carrefour_head_widths)], narrowed := true }
def RulesActsUptoSaid : Prop := rulesActsUptoRow.holds Tryd.pinned (OpenSpec.upto rulesActsSpec)

/-- 'carrefourlaw16.PolicyRuns', WHERE WHAT IT READS IS OF BULK AT MOST 1048576: true; the input reads as it did. -/
def policyRunsUptoRow : OpenClaim := { program := "ytjeligbgcofaeaadoor", sum := "7b4b87ebd8d700031dd5a7915067733c7e782954f24457b00655bd02cc604b2e", func := "carrefour/carrefourlaw16.PolicyRuns", spec := "policyRuns", unfollowed := true, recurses := true, named := ["carrefour/head.widths"], loops := true, apart := false, laid := [("carrefour/head.widths", laid_carrefour_head_widths)], narrowed := true }
def PolicyRunsUptoSaid : Prop := policyRunsUptoRow.holds Tryd.pinned (OpenSpec.upto policyRunsSpec)

/-- 'carrefourlaw16.PolicyLaws', WHERE WHAT IT READS IS OF BULK AT MOST 1048576: true; the input reads as it did. -/
def policyLawsUptoRow : OpenClaim := { program := "ytjeligbgcofaeaadoor", sum := "7b4b87ebd8d700031dd5a7915067733c7e782954f24457b00655bd02cc604b2e", func := "carrefour/carrefourlaw16.PolicyLaws", spec := "policyLaws", unfollowed := true, recurses := true, named := ["carrefour/head.widths"], loops := true, apart := false, laid := [("carrefour/head.widths", laid_carrefour_head_widths)], narrowed := true }
def PolicyLawsUptoSaid : Prop := policyLawsUptoRow.holds Tryd.pinned (OpenSpec.upto policyLawsSpec)

/-- 'carrefourlaw16.PolicySets', WHERE WHAT IT READS IS OF BULK AT MOST 1048576: true; the input reads as it did. -/
def policySetsUptoRow : OpenClaim := { program := "ytjeligbgcofaeaadoor", sum := "7b4b87ebd8d700031dd5a7915067733c7e782954f24457b00655bd02cc604b2e", func := "carrefour/carrefourlaw16.PolicySets", spec := "policySets", unfollowed := true, recurses := true, named := ["carrefour/head.widths"], apart := false, laid := [("carrefour/head.widths", laid_carrefour_head_widths)], narrowed := true }
def PolicySetsUptoSaid : Prop := policySetsUptoRow.holds Tryd.pinned (OpenSpec.upto policySetsSpec)

/-- 'carrefourlaw16.PolicyChecks', WHERE WHAT IT READS IS OF BULK AT MOST 1048576: true; the input reads as it did. -/
def policyChecksUptoRow : OpenClaim := { program := "ytjeligbgcofaeaadoor", sum := "7b4b87ebd8d700031dd5a7915067733c7e782954f24457b00655bd02cc604b2e", func := "carrefour/carrefourlaw16.PolicyChecks", spec := "policyChecks", unfollowed := true, recurses := true, named := ["carrefour/head.widths"], loops := true, apart := false, laid := [("carrefour/head.widths", laid_carrefour_head_widths)], narrowed := true }
def PolicyChecksUptoSaid : Prop := policyChecksUptoRow.holds Tryd.pinned (OpenSpec.upto policyChecksSpec)

/-- 'carrefourlaw16.PolicyFilters', WHERE WHAT IT READS IS OF BULK AT MOST 1048576: true; the input reads as it did. -/
def policyFiltersUptoRow : OpenClaim := { program := "ytjeligbgcofaeaadoor", sum := "7b4b87ebd8d700031dd5a7915067733c7e782954f24457b00655bd02cc604b2e", func := "carrefour/carrefourlaw16.PolicyFilters", spec := "policyFilters", unfollowed := true, recurses := true, named := ["carrefour/head.widths"], loops := true, apart := false, laid := [("carrefour/head.widths", laid_carrefour_head_widths)], narrowed := true }
def PolicyFiltersUptoSaid : Prop := policyFiltersUptoRow.holds Tryd.pinned (OpenSpec.upto policyFiltersSpec)

end Rows
end Go.Proofs.YtjeligbgcofaeaaDoor
