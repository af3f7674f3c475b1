/-
  No cell of these rows narrows 'for every input' (looked for: loops, veiled, ifaces, maps, wideKeys, modest, calm, conditions, laid).
  DERIVED. THE GIVEN ROWS OF THIS SEAT. 5 by the template 'for every input the law returns true; each argument reads behind the call as it read before'; 0 by the template 'total and deterministic' (their statements: YthlmffjafeodlaaTotals.lean).
  GIVEN WITH THE SEED: the statements are not yours to turn. If you find one false, say at which input.
  Laid BY PROGRAM, IN A SANDBOX (cutbox-rows.mjs): the forced cells as the released guide's own fill.sh prints them over the translation 5ae981523a3054e1… (all of the seat's roots in one cut). By AI agents, Wed Nov 11 2026. No macro, syntax, notation, axiom, sorry.
-/
import Derived.Test.YthlmffjafeodlaaChecked
import GoSem.Claim
import GoSem.ClaimJoined
import GoSem.ClaimMapViews
import Derived.JoinedTies
import Derived.KernelRfl
namespace Go.Proofs.Ythlmffjafeodlaa
/- THE CELL 'sum', in the pinned program and in every row, IS THE sha256 OF THE DUMP (.gsa) THAT YthlmffjafeodlaaProg.lean LOADS. Nothing in Lean hashes anything: it is a label: what it is worth is what the hold of that sum in a sandbox is worth. -/
noncomputable def Try.pinned : Pinned := { name := "ythlmffjafeodlaa", sum := "5ae981523a3054e1ce6ff70c64f57764b043a8fed9a064f5b310572dfabddc43", checked := Try.checked }
namespace Rows
def none {H : Type} : Left H := { results := [], args := [] }

/-- 'bramblelaw09.SccOrders': WHATEVER THE INPUT: true; the input reads as it did. -/
def sccOrdersSpec : ChangeSpec := { name := "sccOrders", fn := fun _ => fun
  | [d1, d2] => { results := [.lit (.bool true)], args := [d1, d2] }
  | _ => none }
def sccOrdersRow : OpenClaim := { program := "ythlmffjafeodlaa", sum := "5ae981523a3054e1ce6ff70c64f57764b043a8fed9a064f5b310572dfabddc43", func := "bramble/bramblelaw09.SccOrders", spec := "sccOrders", unfollowed := true, recurses := true, apart := false }
def SccOrdersSaid : Prop := sccOrdersRow.holds Try.pinned (OpenSpec.ofChange sccOrdersSpec)

/-- ITS FALSE NEIGHBOUR: 'it returns false'. Refute it at one input. -/
def sccOrdersWrong : ChangeSpec := { name := "sccOrders", fn := fun _ => fun
  | [d1, d2] => { results := [.lit (.bool false)], args := [d1, d2] }
  | _ => none }
def SccOrdersWrongFalsely : Prop := sccOrdersRow.holds Try.pinned (OpenSpec.ofChange sccOrdersWrong)

/-- 'bramblelaw09.SccTurned': WHATEVER THE INPUT: true; the input reads as it did. -/
def sccTurnedSpec : ChangeSpec := { name := "sccTurned", fn := fun _ => fun
  | [d1, d2] => { results := [.lit (.bool true)], args := [d1, d2] }
  | _ => none }
def sccTurnedRow : OpenClaim := { program := "ythlmffjafeodlaa", sum := "5ae981523a3054e1ce6ff70c64f57764b043a8fed9a064f5b310572dfabddc43", func := "bramble/bramblelaw09.SccTurned", spec := "sccTurned", unfollowed := true, recurses := true, apart := false }
def SccTurnedSaid : Prop := sccTurnedRow.holds Try.pinned (OpenSpec.ofChange sccTurnedSpec)

/-- ITS FALSE NEIGHBOUR: 'it returns false'. Refute it at one input. -/
def sccTurnedWrong : ChangeSpec := { name := "sccTurned", fn := fun _ => fun
  | [d1, d2] => { results := [.lit (.bool false)], args := [d1, d2] }
  | _ => none }
def SccTurnedWrongFalsely : Prop := sccTurnedRow.holds Try.pinned (OpenSpec.ofChange sccTurnedWrong)

/-- 'bramblelaw09.SccAnswers': WHATEVER THE INPUT: true; the input reads as it did. -/
def sccAnswersSpec : ChangeSpec := { name := "sccAnswers", fn := fun _ => fun
  | [d1, d2] => { results := [.lit (.bool true)], args := [d1, d2] }
  | _ => none }
def sccAnswersRow : OpenClaim := { program := "ythlmffjafeodlaa", sum := "5ae981523a3054e1ce6ff70c64f57764b043a8fed9a064f5b310572dfabddc43", func := "bramble/bramblelaw09.SccAnswers", spec := "sccAnswers", unfollowed := true, recurses := true, apart := false }
def SccAnswersSaid : Prop := sccAnswersRow.holds Try.pinned (OpenSpec.ofChange sccAnswersSpec)

/-- ITS FALSE NEIGHBOUR: 'it returns false'. Refute it at one input. -/
def sccAnswersWrong : ChangeSpec := { name := "sccAnswers", fn := fun _ => fun
  | [d1, d2] => { results := [.lit (.bool false)], args := [d1, d2] }
  | _ => none }
def SccAnswersWrongFalsely : Prop := sccAnswersRow.holds Try.pinned (OpenSpec.ofChange sccAnswersWrong)

/-- 'bramblelaw09.SccRing': WHATEVER THE INPUT: true; the input reads as it did. -/
def sccRingSpec : ChangeSpec := { name := "sccRing", fn := fun _ => fun
  | [d1, d2] => { results := [.lit (.bool true)], args := [d1, d2] }
  | _ => none }
def sccRingRow : OpenClaim := { program := "ythlmffjafeodlaa", sum := "5ae981523a3054e1ce6ff70c64f57764b043a8fed9a064f5b310572dfabddc43", func := "bramble/bramblelaw09.SccRing", spec := "sccRing", unfollowed := true, recurses := true, apart := false }
def SccRingSaid : Prop := sccRingRow.holds Try.pinned (OpenSpec.ofChange sccRingSpec)

/-- ITS FALSE NEIGHBOUR: 'it returns false'. Refute it at one input. -/
def sccRingWrong : ChangeSpec := { name := "sccRing", fn := fun _ => fun
  | [d1, d2] => { results := [.lit (.bool false)], args := [d1, d2] }
  | _ => none }
def SccRingWrongFalsely : Prop := sccRingRow.holds Try.pinned (OpenSpec.ofChange sccRingWrong)

/-- 'bramblelaw09.SccOwn': WHATEVER THE INPUT: true; the input reads as it did. -/
def sccOwnSpec : ChangeSpec := { name := "sccOwn", fn := fun _ => fun
  | [d1, d2] => { results := [.lit (.bool true)], args := [d1, d2] }
  | _ => none }
def sccOwnRow : OpenClaim := { program := "ythlmffjafeodlaa", sum := "5ae981523a3054e1ce6ff70c64f57764b043a8fed9a064f5b310572dfabddc43", func := "bramble/bramblelaw09.SccOwn", spec := "sccOwn", unfollowed := true, recurses := true, apart := false }
def SccOwnSaid : Prop := sccOwnRow.holds Try.pinned (OpenSpec.ofChange sccOwnSpec)

/-- ITS FALSE NEIGHBOUR: 'it returns false'. Refute it at one input. -/
def sccOwnWrong : ChangeSpec := { name := "sccOwn", fn := fun _ => fun
  | [d1, d2] => { results := [.lit (.bool false)], args := [d1, d2] }
  | _ => none }
def SccOwnWrongFalsely : Prop := sccOwnRow.holds Try.pinned (OpenSpec.ofChange sccOwnWrong)

/- THE SECOND FORM. 'bulk': how many values and letters a reading holds, each counted each time it is reached (what is shared counts as often as it is met; a slice's spare places count too). A statement '..UptoSaid' is the law's where the arguments, and the package variables that the reading takes, are together of bulk at most 1048576: NARROWER than '..Said'. Prove '..Said' where nothing that the law and all that it calls make is longer than what came in: it says more and counts as full. Else prove '..UptoSaid'. A law counts once. -/
mutual
def uptoBulk {H : Type} : DataW H → Nat
  | .lit (.string bytes) => bytes.length + 1
  | .lit _ => 1
  | .nil => 1
  | .ptr d => uptoBulk d + 1
  | .slice elems spare => uptoBulkAll elems + uptoBulkAll spare + 1
  | .agg parts => uptoBulkAll parts + 1
  | .iface _ d => uptoBulk d + 1
  | .map entries => uptoBulkEntries entries + 1
  | .held _ => 1
def uptoBulkAll {H : Type} : List (DataW H) → Nat
  | [] => 0
  | d :: r => uptoBulk d + uptoBulkAll r
def uptoBulkEntries {H : Type} : List (Lit × DataW H) → Nat
  | [] => 0
  | x :: r => uptoBulkEntry x + uptoBulkEntries r
def uptoBulkEntry {H : Type} : Lit × DataW H → Nat
  | (.string bytes, d) => bytes.length + uptoBulk d + 1
  | (_, d) => uptoBulk d + 1
 end
def uptoSmall : (H : Type) → List (DataW H) → Bool := fun _ ds => decide (uptoBulkAll ds ≤ 1048576)
def OpenSpec.upto (s : _root_.Go.ChangeSpec) : _root_.Go.OpenSpec := { _root_.Go.OpenSpec.ofChange s with cond := some uptoSmall }

/-- 'bramblelaw09.SccOrders', WHERE WHAT IT READS IS OF BULK AT MOST 1048576: true; the input reads as it did. -/
def sccOrdersUptoRow : OpenClaim := { program := "ythlmffjafeodlaa", sum := "5ae981523a3054e1ce6ff70c64f57764b043a8fed9a064f5b310572dfabddc43", func := "bramble/bramblelaw09.SccOrders", spec := "sccOrders", unfollowed := true, recurses := true, apart := false, narrowed := true }
def SccOrdersUptoSaid : Prop := sccOrdersUptoRow.holds Try.pinned (OpenSpec.upto sccOrdersSpec)

/-- 'bramblelaw09.SccTurned', WHERE WHAT IT READS IS OF BULK AT MOST 1048576: true; the input reads as it did. -/
def sccTurnedUptoRow : OpenClaim := { program := "ythlmffjafeodlaa", sum := "5ae981523a3054e1ce6ff70c64f57764b043a8fed9a064f5b310572dfabddc43", func := "bramble/bramblelaw09.SccTurned", spec := "sccTurned", unfollowed := true, recurses := true, apart := false, narrowed := true }
def SccTurnedUptoSaid : Prop := sccTurnedUptoRow.holds Try.pinned (OpenSpec.upto sccTurnedSpec)

/-- 'bramblelaw09.SccAnswers', WHERE WHAT IT READS IS OF BULK AT MOST 1048576: true; the input reads as it did. -/
def sccAnswersUptoRow : OpenClaim := { program := "ythlmffjafeodlaa", sum := "5ae981523a3054e1ce6ff70c64f57764b043a8fed9a064f5b310572dfabddc43", func := "bramble/bramblelaw09.SccAnswers", spec := "sccAnswers", unfollowed := true, recurses := true, apart := false, narrowed := true }
def SccAnswersUptoSaid : Prop := sccAnswersUptoRow.holds Try.pinned (OpenSpec.upto sccAnswersSpec)

/-- 'bramblelaw09.SccRing', WHERE WHAT IT READS IS OF BULK AT MOST 1048576: true; the input reads as it did. -/
def sccRingUptoRow : OpenClaim := { program := "ythlmffjafeodlaa", sum := "5ae981523a3054e1ce6ff70c64f57764b043a8fed9a064f5b310572dfabddc43", func := "bramble/bramblelaw09.SccRing", spec := "sccRing", unfollowed := true, recurses := true, apart := false, narrowed := true }
def SccRingUptoSaid : Prop := sccRingUptoRow.holds Try.pinned (OpenSpec.upto sccRingSpec)

/-- 'bramblelaw09.SccOwn', WHERE WHAT IT READS IS OF BULK AT MOST 1048576: true; the input reads as it did. -/
def sccOwnUptoRow : OpenClaim := { program := "ythlmffjafeodlaa", sum := "5ae981523a3054e1ce6ff70c64f57764b043a8fed9a064f5b310572dfabddc43", func := "bramble/bramblelaw09.SccOwn", spec := "sccOwn", unfollowed := true, recurses := true, apart := false, narrowed := true }
def SccOwnUptoSaid : Prop := sccOwnUptoRow.holds Try.pinned (OpenSpec.upto sccOwnSpec)

end Rows
end Go.Proofs.Ythlmffjafeodlaa
