/-
  No cell of these rows narrows 'for every input' (looked for: loops, veiled, ifaces, maps, wideKeys, modest, calm, conditions, laid).
  DERIVED. THE GIVEN ROWS OF THIS SEAT. 2 by the template 'for every input the law returns true; each argument reads behind the call as it read before'; 0 by the template 'total and deterministic' (their statements: YtdicnaninnmoeaaGreatTotals.lean).
  GIVEN WITH THE SEED: the statements are not yours to turn. If you find one false, say at which input.
  Laid BY PROGRAM, IN A SANDBOX (cutbox-rows.mjs): the forced cells as the released guide's own fill.sh prints them over the translation a06475169736f646… (all of the seat's roots in one cut). By AI agents, Wed Nov 11 2026. No macro, syntax, notation, axiom, sorry.
-/
import Derived.Test.YtdicnaninnmoeaaGreatChecked
import GoSem.Claim
import GoSem.ClaimJoined
import GoSem.ClaimMapViews
import Derived.JoinedTies
import Derived.KernelRfl
namespace Go.Proofs.YtdicnaninnmoeaaGreat
/- THE CELL 'sum', in the pinned program and in every row, IS THE sha256 OF THE DUMP (.gsa) THAT YtdicnaninnmoeaaGreatProg.lean LOADS. Nothing in Lean hashes anything: it is a label: what it is worth is what the hold of that sum in a sandbox is worth. -/
noncomputable def Tryz.pinned : Pinned := { name := "ytdicnaninnmoeaagreat", sum := "a06475169736f646833242d5bb69ae9eb848f74f1f8c6fbeff81ebbcb1bebd93", checked := Tryz.checked }
namespace Rows
def none {H : Type} : Left H := { results := [], args := [] }

/-- 'fasciclelaw30.ReportBytes': WHATEVER THE INPUT: true; the input reads as it did. -/
def reportBytesSpec : ChangeSpec := { name := "reportBytes", fn := fun _ => fun
  | [d1, d2] => { results := [.lit (.bool true)], args := [d1, d2] }
  | _ => none }
def reportBytesRow : OpenClaim := { program := "ytdicnaninnmoeaagreat", sum := "a06475169736f646833242d5bb69ae9eb848f74f1f8c6fbeff81ebbcb1bebd93", func := "fascicle/fasciclelaw30.ReportBytes", spec := "reportBytes", inPlace := ["internal/bytealg.IndexByte", "internal/bytealg.MakeNoZero", "math.Float64bits", "math.Float64frombits"], unfollowed := true, recurses := true, apart := false }
def ReportBytesSaid : Prop := reportBytesRow.holds Tryz.pinned (OpenSpec.ofChange reportBytesSpec)

/-- ITS FALSE NEIGHBOUR: 'it returns false'. Refute it at one input. -/
def reportBytesWrong : ChangeSpec := { name := "reportBytes", fn := fun _ => fun
  | [d1, d2] => { results := [.lit (.bool false)], args := [d1, d2] }
  | _ => none }
def ReportBytesWrongFalsely : Prop := reportBytesRow.holds Tryz.pinned (OpenSpec.ofChange reportBytesWrong)

/-- 'fasciclelaw33.HistoryChecks': WHATEVER THE INPUT: true; the input reads as it did. -/
def historyChecksSpec : ChangeSpec := { name := "historyChecks", fn := fun _ => fun
  | [d] => { results := [.lit (.bool true)], args := [d] }
  | _ => none }
def historyChecksRow : OpenClaim := { program := "ytdicnaninnmoeaagreat", sum := "a06475169736f646833242d5bb69ae9eb848f74f1f8c6fbeff81ebbcb1bebd93", func := "fascicle/fasciclelaw33.HistoryChecks", spec := "historyChecks", inPlace := ["internal/abi.NoEscape", "internal/bytealg.MakeNoZero", "internal/bytealg.IndexByte"], unfollowed := true, recurses := true, apart := false }
def HistoryChecksSaid : Prop := historyChecksRow.holds Tryz.pinned (OpenSpec.ofChange historyChecksSpec)

/-- ITS FALSE NEIGHBOUR: 'it returns false'. Refute it at one input. -/
def historyChecksWrong : ChangeSpec := { name := "historyChecks", fn := fun _ => fun
  | [d] => { results := [.lit (.bool false)], args := [d] }
  | _ => none }
def HistoryChecksWrongFalsely : Prop := historyChecksRow.holds Tryz.pinned (OpenSpec.ofChange historyChecksWrong)

/- THE SECOND FORM. 'bulk': how many values and letters a reading holds, each counted each time it is reached (what is shared counts as often as it is met; a slice's spare places count too). A statement '..UptoSaid' is the law's where the arguments, and the package variables that the reading takes, are together of bulk at most 1048576: NARROWER than '..Said'. Prove '..Said' where nothing that the law and all that it calls make is longer than what came in: it says more and counts as full. Else prove '..UptoSaid'. A law counts once. -/
mutual
def uptoBulk {H : Type} : DataW H → Nat
  | .lit (.string bytes) => bytes.length + 1
  | .lit _ => 1
  | .nil => 1
  | .ptr d => uptoBulk d + 1
  | .slice elems spare => uptoBulkAll elems + uptoBulkAll spare + 1
  | .agg parts => uptoBulkAll parts + 1
  | .iface _ d => uptoBulk d + 1
  | .map entries => uptoBulkEntries entries + 1
  | .held _ => 1
def uptoBulkAll {H : Type} : List (DataW H) → Nat
  | [] => 0
  | d :: r => uptoBulk d + uptoBulkAll r
def uptoBulkEntries {H : Type} : List (Lit × DataW H) → Nat
  | [] => 0
  | x :: r => uptoBulkEntry x + uptoBulkEntries r
def uptoBulkEntry {H : Type} : Lit × DataW H → Nat
  | (.string bytes, d) => bytes.length + uptoBulk d + 1
  | (_, d) => uptoBulk d + 1
 end
def uptoSmall : (H : Type) → List (DataW H) → Bool := fun _ ds => decide (uptoBulkAll ds ≤ 1048576)
def OpenSpec.upto (s : _root_.Go.ChangeSpec) : _root_.Go.OpenSpec := { _root_.Go.OpenSpec.ofChange s with cond := some uptoSmall }

/-- 'fasciclelaw30.ReportBytes', WHERE WHAT IT READS IS OF BULK AT MOST 1048576: true; the input reads as it did. -/
def reportBytesUptoRow : OpenClaim := { program := "ytdicnaninnmoeaagreat", sum := "a06475169736f646833242d5bb69ae9eb848f74f1f8c6fbeff81ebbcb1bebd93", func := "fascicle/fasciclelaw30.ReportBytes", spec := "reportBytes", inPlace := ["internal/bytealg.IndexByte", "internal/bytealg.MakeNoZero", "math.Float64bits", "math.Float64frombits"], unfollowed := true, recurses := true, apart := false, narrowed := true }
def ReportBytesUptoSaid : Prop := reportBytesUptoRow.holds Tryz.pinned (OpenSpec.upto reportBytesSpec)

/-- 'fasciclelaw33.HistoryChecks', WHERE WHAT IT READS IS OF BULK AT MOST 1048576: true; the input reads as it did. -/
def historyChecksUptoRow : OpenClaim := { program := "ytdicnaninnmoeaagreat", sum := "a06475169736f646833242d5bb69ae9eb848f74f1f8c6fbeff81ebbcb1bebd93", func := "fascicle/fasciclelaw33.HistoryChecks", spec := "historyChecks", inPlace := ["internal/abi.NoEscape", "internal/bytealg.MakeNoZero", "internal/bytealg.IndexByte"], unfollowed := true, recurses := true, apart := false, narrowed := true }
def HistoryChecksUptoSaid : Prop := historyChecksUptoRow.holds Tryz.pinned (OpenSpec.upto historyChecksSpec)

end Rows
end Go.Proofs.YtdicnaninnmoeaaGreat
