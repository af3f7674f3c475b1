/-
  No cell of these rows narrows 'for every input' (looked for: loops, veiled, ifaces, maps, wideKeys, modest, calm, conditions, laid).
  DERIVED. THE GIVEN ROWS OF THIS SEAT. 2 by the template 'for every input the law returns true; each argument reads behind the call as it read before'; 0 by the template 'total and deterministic' (their statements: YthomnpgpbhpojaaTotals.lean).
  GIVEN WITH THE SEED: the statements are not yours to turn. If you find one false, say at which input.
  Laid BY PROGRAM, IN A SANDBOX (cutbox-rows.mjs): the forced cells as the released guide's own fill.sh prints them over the translation 8e3552fcf17009a4… (all of the seat's roots in one cut). By AI agents, Wed Nov 11 2026. No macro, syntax, notation, axiom, sorry.
-/
import Derived.Test.YthomnpgpbhpojaaChecked
import GoSem.Claim
import GoSem.ClaimJoined
import GoSem.ClaimMapViews
import Derived.JoinedTies
import Derived.KernelRfl
namespace Go.Proofs.Ythomnpgpbhpojaa
/- THE CELL 'sum', in the pinned program and in every row, IS THE sha256 OF THE DUMP (.gsa) THAT YthomnpgpbhpojaaProg.lean LOADS. Nothing in Lean hashes anything: it is a label: what it is worth is what the hold of that sum in a sandbox is worth. -/
noncomputable def Try.pinned : Pinned := { name := "ythomnpgpbhpojaa", sum := "8e3552fcf17009a438847d0f0c02b5f0e3c25f6075b6939f93e0477e35a54335", checked := Try.checked }
namespace Rows
def none {H : Type} : Left H := { results := [], args := [] }

/-- 'bramblelaw10.CondBounded': WHATEVER THE INPUT: true; the input reads as it did. -/
def condBoundedSpec : ChangeSpec := { name := "condBounded", fn := fun _ => fun
  | [d] => { results := [.lit (.bool true)], args := [d] }
  | _ => none }
def condBoundedRow : OpenClaim := { program := "ythomnpgpbhpojaa", sum := "8e3552fcf17009a438847d0f0c02b5f0e3c25f6075b6939f93e0477e35a54335", func := "bramble/bramblelaw10.CondBounded", spec := "condBounded", unfollowed := true, recurses := true, apart := false }
def CondBoundedSaid : Prop := condBoundedRow.holds Try.pinned (OpenSpec.ofChange condBoundedSpec)

/-- ITS FALSE NEIGHBOUR: 'it returns false'. Refute it at one input. -/
def condBoundedWrong : ChangeSpec := { name := "condBounded", fn := fun _ => fun
  | [d] => { results := [.lit (.bool false)], args := [d] }
  | _ => none }
def CondBoundedWrongFalsely : Prop := condBoundedRow.holds Try.pinned (OpenSpec.ofChange condBoundedWrong)

/-- 'bramblelaw10.CondOrders': WHATEVER THE INPUT: true; the input reads as it did. -/
def condOrdersSpec : ChangeSpec := { name := "condOrders", fn := fun _ => fun
  | [d1, d2] => { results := [.lit (.bool true)], args := [d1, d2] }
  | _ => none }
def condOrdersRow : OpenClaim := { program := "ythomnpgpbhpojaa", sum := "8e3552fcf17009a438847d0f0c02b5f0e3c25f6075b6939f93e0477e35a54335", func := "bramble/bramblelaw10.CondOrders", spec := "condOrders", unfollowed := true, recurses := true, apart := false }
def CondOrdersSaid : Prop := condOrdersRow.holds Try.pinned (OpenSpec.ofChange condOrdersSpec)

/-- ITS FALSE NEIGHBOUR: 'it returns false'. Refute it at one input. -/
def condOrdersWrong : ChangeSpec := { name := "condOrders", fn := fun _ => fun
  | [d1, d2] => { results := [.lit (.bool false)], args := [d1, d2] }
  | _ => none }
def CondOrdersWrongFalsely : Prop := condOrdersRow.holds Try.pinned (OpenSpec.ofChange condOrdersWrong)

/- THE SECOND FORM. 'bulk': how many values and letters a reading holds, each counted each time it is reached (what is shared counts as often as it is met; a slice's spare places count too). A statement '..UptoSaid' is the law's where the arguments, and the package variables that the reading takes, are together of bulk at most 1048576: NARROWER than '..Said'. Prove '..Said' where nothing that the law and all that it calls make is longer than what came in: it says more and counts as full. Else prove '..UptoSaid'. A law counts once. -/
mutual
def uptoBulk {H : Type} : DataW H → Nat
  | .lit (.string bytes) => bytes.length + 1
  | .lit _ => 1
  | .nil => 1
  | .ptr d => uptoBulk d + 1
  | .slice elems spare => uptoBulkAll elems + uptoBulkAll spare + 1
  | .agg parts => uptoBulkAll parts + 1
  | .iface _ d => uptoBulk d + 1
  | .map entries => uptoBulkEntries entries + 1
  | .held _ => 1
def uptoBulkAll {H : Type} : List (DataW H) → Nat
  | [] => 0
  | d :: r => uptoBulk d + uptoBulkAll r
def uptoBulkEntries {H : Type} : List (Lit × DataW H) → Nat
  | [] => 0
  | x :: r => uptoBulkEntry x + uptoBulkEntries r
def uptoBulkEntry {H : Type} : Lit × DataW H → Nat
  | (.string bytes, d) => bytes.length + uptoBulk d + 1
  | (_, d) => uptoBulk d + 1
 end
def uptoSmall : (H : Type) → List (DataW H) → Bool := fun _ ds => decide (uptoBulkAll ds ≤ 1048576)
def OpenSpec.upto (s : _root_.Go.ChangeSpec) : _root_.Go.OpenSpec := { _root_.Go.OpenSpec.ofChange s with cond := some uptoSmall }

/-- 'bramblelaw10.CondBounded', WHERE WHAT IT READS IS OF BULK AT MOST 1048576: true; the input reads as it did. -/
def condBoundedUptoRow : OpenClaim := { program := "ythomnpgpbhpojaa", sum := "8e3552fcf17009a438847d0f0c02b5f0e3c25f6075b6939f93e0477e35a54335", func := "bramble/bramblelaw10.CondBounded", spec := "condBounded", unfollowed := true, recurses := true, apart := false, narrowed := true }
def CondBoundedUptoSaid : Prop := condBoundedUptoRow.holds Try.pinned (OpenSpec.upto condBoundedSpec)

/-- 'bramblelaw10.CondOrders', WHERE WHAT IT READS IS OF BULK AT MOST 1048576: true; the input reads as it did. -/
def condOrdersUptoRow : OpenClaim := { program := "ythomnpgpbhpojaa", sum := "8e3552fcf17009a438847d0f0c02b5f0e3c25f6075b6939f93e0477e35a54335", func := "bramble/bramblelaw10.CondOrders", spec := "condOrders", unfollowed := true, recurses := true, apart := false, narrowed := true }
def CondOrdersUptoSaid : Prop := condOrdersUptoRow.holds Try.pinned (OpenSpec.upto condOrdersSpec)

end Rows
end Go.Proofs.Ythomnpgpbhpojaa
