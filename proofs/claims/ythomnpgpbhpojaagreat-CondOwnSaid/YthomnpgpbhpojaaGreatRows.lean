/-
  No cell of these rows narrows 'for every input' (looked for: loops, veiled, ifaces, maps, wideKeys, modest, calm, conditions, laid).
  DERIVED. THE GIVEN ROWS OF THIS SEAT. 2 by the template 'for every input the law returns true; each argument reads behind the call as it read before'; 0 by the template 'total and deterministic' (their statements: YthomnpgpbhpojaaGreatTotals.lean).
  GIVEN WITH THE SEED: the statements are not yours to turn. If you find one false, say at which input.
  Laid BY PROGRAM, IN A SANDBOX (cutbox-rows.mjs): the forced cells as the released guide's own fill.sh prints them over the translation f4e6740fd6b82c4f… (all of the seat's roots in one cut). By AI agents, Wed Nov 11 2026. No macro, syntax, notation, axiom, sorry.
-/
import Derived.Test.YthomnpgpbhpojaaGreatChecked
import GoSem.Claim
import GoSem.ClaimJoined
import GoSem.ClaimMapViews
import Derived.JoinedTies
import Derived.KernelRfl
namespace Go.Proofs.YthomnpgpbhpojaaGreat
/- THE CELL 'sum', in the pinned program and in every row, IS THE sha256 OF THE DUMP (.gsa) THAT YthomnpgpbhpojaaGreatProg.lean LOADS. Nothing in Lean hashes anything: it is a label: what it is worth is what the hold of that sum in a sandbox is worth. -/
noncomputable def Tryz.pinned : Pinned := { name := "ythomnpgpbhpojaagreat", sum := "f4e6740fd6b82c4f0baff720de99d371cd6de564bc2b2c3ae22e84daba42bb1f", checked := Tryz.checked }
namespace Rows
def none {H : Type} : Left H := { results := [], args := [] }

/-- 'bramblelaw10.CondPlays': WHATEVER THE INPUT: true; the input reads as it did. -/
def condPlaysSpec : ChangeSpec := { name := "condPlays", fn := fun _ => fun
  | [d] => { results := [.lit (.bool true)], args := [d] }
  | _ => none }
def condPlaysRow : OpenClaim := { program := "ythomnpgpbhpojaagreat", sum := "f4e6740fd6b82c4f0baff720de99d371cd6de564bc2b2c3ae22e84daba42bb1f", func := "bramble/bramblelaw10.CondPlays", spec := "condPlays", unfollowed := true, recurses := true, apart := false }
def CondPlaysSaid : Prop := condPlaysRow.holds Tryz.pinned (OpenSpec.ofChange condPlaysSpec)

/-- ITS FALSE NEIGHBOUR: 'it returns false'. Refute it at one input. -/
def condPlaysWrong : ChangeSpec := { name := "condPlays", fn := fun _ => fun
  | [d] => { results := [.lit (.bool false)], args := [d] }
  | _ => none }
def CondPlaysWrongFalsely : Prop := condPlaysRow.holds Tryz.pinned (OpenSpec.ofChange condPlaysWrong)

/-- 'bramblelaw10.CondOwn': WHATEVER THE INPUT: true; the input reads as it did. -/
def condOwnSpec : ChangeSpec := { name := "condOwn", fn := fun _ => fun
  | [d1, d2] => { results := [.lit (.bool true)], args := [d1, d2] }
  | _ => none }
def condOwnRow : OpenClaim := { program := "ythomnpgpbhpojaagreat", sum := "f4e6740fd6b82c4f0baff720de99d371cd6de564bc2b2c3ae22e84daba42bb1f", func := "bramble/bramblelaw10.CondOwn", spec := "condOwn", unfollowed := true, recurses := true, apart := false }
def CondOwnSaid : Prop := condOwnRow.holds Tryz.pinned (OpenSpec.ofChange condOwnSpec)

/-- ITS FALSE NEIGHBOUR: 'it returns false'. Refute it at one input. -/
def condOwnWrong : ChangeSpec := { name := "condOwn", fn := fun _ => fun
  | [d1, d2] => { results := [.lit (.bool false)], args := [d1, d2] }
  | _ => none }
def CondOwnWrongFalsely : Prop := condOwnRow.holds Tryz.pinned (OpenSpec.ofChange condOwnWrong)

/- THE SECOND FORM. 'bulk': how many values and letters a reading holds, each counted each time it is reached (what is shared counts as often as it is met; a slice's spare places count too). A statement '..UptoSaid' is the law's where the arguments, and the package variables that the reading takes, are together of bulk at most 1048576: NARROWER than '..Said'. Prove '..Said' where nothing that the law and all that it calls make is longer than what came in: it says more and counts as full. Else prove '..UptoSaid'. A law counts once. -/
mutual
def uptoBulk {H : Type} : DataW H → Nat
  | .lit (.string bytes) => bytes.length + 1
  | .lit _ => 1
  | .nil => 1
  | .ptr d => uptoBulk d + 1
  | .slice elems spare => uptoBulkAll elems + uptoBulkAll spare + 1
  | .agg parts => uptoBulkAll parts + 1
  | .iface _ d => uptoBulk d + 1
  | .map entries => uptoBulkEntries entries + 1
  | .held _ => 1
def uptoBulkAll {H : Type} : List (DataW H) → Nat
  | [] => 0
  | d :: r => uptoBulk d + uptoBulkAll r
def uptoBulkEntries {H : Type} : List (Lit × DataW H) → Nat
  | [] => 0
  | x :: r => uptoBulkEntry x + uptoBulkEntries r
def uptoBulkEntry {H : Type} : Lit × DataW H → Nat
  | (.string bytes, d) => bytes.length + uptoBulk d + 1
  | (_, d) => uptoBulk d + 1
 end
def uptoSmall : (H : Type) → List (DataW H) → Bool := fun _ ds => decide (uptoBulkAll ds ≤ 1048576)
def OpenSpec.upto (s : _root_.Go.ChangeSpec) : _root_.Go.OpenSpec := { _root_.Go.OpenSpec.ofChange s with cond := some uptoSmall }

/-- 'bramblelaw10.CondPlays', WHERE WHAT IT READS IS OF BULK AT MOST 1048576: true; the input reads as it did. -/
def condPlaysUptoRow : OpenClaim := { program := "ythomnpgpbhpojaagreat", sum := "f4e6740fd6b82c4f0baff720de99d371cd6de564bc2b2c3ae22e84daba42bb1f", func := "bramble/bramblelaw10.CondPlays", spec := "condPlays", unfollowed := true, recurses := true, apart := false, narrowed := true }
def CondPlaysUptoSaid : Prop := condPlaysUptoRow.holds Tryz.pinned (OpenSpec.upto condPlaysSpec)

/-- 'bramblelaw10.CondOwn', WHERE WHAT IT READS IS OF BULK AT MOST 1048576: true; the input reads as it did. -/
def condOwnUptoRow : OpenClaim := { program := "ythomnpgpbhpojaagreat", sum := "f4e6740fd6b82c4f0baff720de99d371cd6de564bc2b2c3ae22e84daba42bb1f", func := "bramble/bramblelaw10.CondOwn", spec := "condOwn", unfollowed := true, recurses := true, apart := false, narrowed := true }
def CondOwnUptoSaid : Prop := condOwnUptoRow.holds Tryz.pinned (OpenSpec.upto condOwnSpec)

end Rows
end Go.Proofs.YthomnpgpbhpojaaGreat
