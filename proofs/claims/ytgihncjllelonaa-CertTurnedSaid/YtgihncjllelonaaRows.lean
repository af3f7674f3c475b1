/-
  No cell of these rows narrows 'for every input' (looked for: loops, veiled, ifaces, maps, wideKeys, modest, calm, conditions, laid).
  DERIVED. THE GIVEN ROWS OF THIS SEAT. 4 by the template 'for every input the law returns true; each argument reads behind the call as it read before'; 0 by the template 'total and deterministic' (their statements: YtgihncjllelonaaTotals.lean).
  GIVEN WITH THE SEED: the statements are not yours to turn. If you find one false, say at which input.
  Laid BY PROGRAM, IN A SANDBOX (cutbox-rows.mjs): the forced cells as the released guide's own fill.sh prints them over the translation cc767171f3803cc5… (all of the seat's roots in one cut). By AI agents, Wed Nov 11 2026. No macro, syntax, notation, axiom, sorry.
-/
import Derived.Test.YtgihncjllelonaaChecked
import GoSem.Claim
import GoSem.ClaimJoined
import GoSem.ClaimMapViews
import Derived.JoinedTies
import Derived.KernelRfl
namespace Go.Proofs.Ytgihncjllelonaa
/- THE CELL 'sum', in the pinned program and in every row, IS THE sha256 OF THE DUMP (.gsa) THAT YtgihncjllelonaaProg.lean LOADS. Nothing in Lean hashes anything: it is a label: what it is worth is what the hold of that sum in a sandbox is worth. -/
noncomputable def Try.pinned : Pinned := { name := "ytgihncjllelonaa", sum := "cc767171f3803cc517fbc23e7ab4fafba3c14f5d34a698fec46bc3a227dc2114", checked := Try.checked }
namespace Rows
def none {H : Type} : Left H := { results := [], args := [] }

/-- 'bramblelaw15.CertParts': WHATEVER THE INPUT: true; the input reads as it did. -/
def certPartsSpec : ChangeSpec := { name := "certParts", fn := fun _ => fun
  | [d1, d2, d3] => { results := [.lit (.bool true)], args := [d1, d2, d3] }
  | _ => none }
def certPartsRow : OpenClaim := { program := "ytgihncjllelonaa", sum := "cc767171f3803cc517fbc23e7ab4fafba3c14f5d34a698fec46bc3a227dc2114", func := "bramble/bramblelaw15.CertParts", spec := "certParts", inPlace := ["math.Float32frombits", "math.Float32bits", "math.Float64frombits"], unfollowed := true, recurses := true, apart := false }
def CertPartsSaid : Prop := certPartsRow.holds Try.pinned (OpenSpec.ofChange certPartsSpec)

/-- ITS FALSE NEIGHBOUR: 'it returns false'. Refute it at one input. -/
def certPartsWrong : ChangeSpec := { name := "certParts", fn := fun _ => fun
  | [d1, d2, d3] => { results := [.lit (.bool false)], args := [d1, d2, d3] }
  | _ => none }
def CertPartsWrongFalsely : Prop := certPartsRow.holds Try.pinned (OpenSpec.ofChange certPartsWrong)

/-- 'bramblelaw15.CertLabels': WHATEVER THE INPUT: true; the input reads as it did. -/
def certLabelsSpec : ChangeSpec := { name := "certLabels", fn := fun _ => fun
  | [d1, d2, d3] => { results := [.lit (.bool true)], args := [d1, d2, d3] }
  | _ => none }
def certLabelsRow : OpenClaim := { program := "ytgihncjllelonaa", sum := "cc767171f3803cc517fbc23e7ab4fafba3c14f5d34a698fec46bc3a227dc2114", func := "bramble/bramblelaw15.CertLabels", spec := "certLabels", inPlace := ["math.Float32frombits", "math.Float32bits", "math.Float64frombits"], unfollowed := true, recurses := true, apart := false }
def CertLabelsSaid : Prop := certLabelsRow.holds Try.pinned (OpenSpec.ofChange certLabelsSpec)

/-- ITS FALSE NEIGHBOUR: 'it returns false'. Refute it at one input. -/
def certLabelsWrong : ChangeSpec := { name := "certLabels", fn := fun _ => fun
  | [d1, d2, d3] => { results := [.lit (.bool false)], args := [d1, d2, d3] }
  | _ => none }
def CertLabelsWrongFalsely : Prop := certLabelsRow.holds Try.pinned (OpenSpec.ofChange certLabelsWrong)

/-- 'bramblelaw15.CertOwn': WHATEVER THE INPUT: true; the input reads as it did. -/
def certOwnSpec : ChangeSpec := { name := "certOwn", fn := fun _ => fun
  | [d1, d2, d3] => { results := [.lit (.bool true)], args := [d1, d2, d3] }
  | _ => none }
def certOwnRow : OpenClaim := { program := "ytgihncjllelonaa", sum := "cc767171f3803cc517fbc23e7ab4fafba3c14f5d34a698fec46bc3a227dc2114", func := "bramble/bramblelaw15.CertOwn", spec := "certOwn", inPlace := ["math.Float32frombits", "math.Float32bits", "math.Float64frombits"], unfollowed := true, recurses := true, apart := false }
def CertOwnSaid : Prop := certOwnRow.holds Try.pinned (OpenSpec.ofChange certOwnSpec)

/-- ITS FALSE NEIGHBOUR: 'it returns false'. Refute it at one input. -/
def certOwnWrong : ChangeSpec := { name := "certOwn", fn := fun _ => fun
  | [d1, d2, d3] => { results := [.lit (.bool false)], args := [d1, d2, d3] }
  | _ => none }
def CertOwnWrongFalsely : Prop := certOwnRow.holds Try.pinned (OpenSpec.ofChange certOwnWrong)

/-- 'bramblelaw15.CertTurned': WHATEVER THE INPUT: true; the input reads as it did. -/
def certTurnedSpec : ChangeSpec := { name := "certTurned", fn := fun _ => fun
  | [d1, d2, d3] => { results := [.lit (.bool true)], args := [d1, d2, d3] }
  | _ => none }
def certTurnedRow : OpenClaim := { program := "ytgihncjllelonaa", sum := "cc767171f3803cc517fbc23e7ab4fafba3c14f5d34a698fec46bc3a227dc2114", func := "bramble/bramblelaw15.CertTurned", spec := "certTurned", inPlace := ["math.Float32frombits", "math.Float32bits", "math.Float64frombits"], unfollowed := true, recurses := true, apart := false }
def CertTurnedSaid : Prop := certTurnedRow.holds Try.pinned (OpenSpec.ofChange certTurnedSpec)

/-- ITS FALSE NEIGHBOUR: 'it returns false'. Refute it at one input. -/
def certTurnedWrong : ChangeSpec := { name := "certTurned", fn := fun _ => fun
  | [d1, d2, d3] => { results := [.lit (.bool false)], args := [d1, d2, d3] }
  | _ => none }
def CertTurnedWrongFalsely : Prop := certTurnedRow.holds Try.pinned (OpenSpec.ofChange certTurnedWrong)

/- THE SECOND FORM. 'bulk': how many values and letters a reading holds, each counted each time it is reached (what is shared counts as often as it is met; a slice's spare places count too). A statement '..UptoSaid' is the law's where the arguments, and the package variables that the reading takes, are together of bulk at most 1048576: NARROWER than '..Said'. Prove '..Said' where nothing that the law and all that it calls make is longer than what came in: it says more and counts as full. Else prove '..UptoSaid'. A law counts once. -/
mutual
def uptoBulk {H : Type} : DataW H → Nat
  | .lit (.string bytes) => bytes.length + 1
  | .lit _ => 1
  | .nil => 1
  | .ptr d => uptoBulk d + 1
  | .slice elems spare => uptoBulkAll elems + uptoBulkAll spare + 1
  | .agg parts => uptoBulkAll parts + 1
  | .iface _ d => uptoBulk d + 1
  | .map entries => uptoBulkEntries entries + 1
  | .held _ => 1
def uptoBulkAll {H : Type} : List (DataW H) → Nat
  | [] => 0
  | d :: r => uptoBulk d + uptoBulkAll r
def uptoBulkEntries {H : Type} : List (Lit × DataW H) → Nat
  | [] => 0
  | x :: r => uptoBulkEntry x + uptoBulkEntries r
def uptoBulkEntry {H : Type} : Lit × DataW H → Nat
  | (.string bytes, d) => bytes.length + uptoBulk d + 1
  | (_, d) => uptoBulk d + 1
 end
def uptoSmall : (H : Type) → List (DataW H) → Bool := fun _ ds => decide (uptoBulkAll ds ≤ 1048576)
def OpenSpec.upto (s : _root_.Go.ChangeSpec) : _root_.Go.OpenSpec := { _root_.Go.OpenSpec.ofChange s with cond := some uptoSmall }

/-- 'bramblelaw15.CertParts', WHERE WHAT IT READS IS OF BULK AT MOST 1048576: true; the input reads as it did. -/
def certPartsUptoRow : OpenClaim := { program := "ytgihncjllelonaa", sum := "cc767171f3803cc517fbc23e7ab4fafba3c14f5d34a698fec46bc3a227dc2114", func := "bramble/bramblelaw15.CertParts", spec := "certParts", inPlace := ["math.Float32frombits", "math.Float32bits", "math.Float64frombits"], unfollowed := true, recurses := true, apart := false, narrowed := true }
def CertPartsUptoSaid : Prop := certPartsUptoRow.holds Try.pinned (OpenSpec.upto certPartsSpec)

/-- 'bramblelaw15.CertLabels', WHERE WHAT IT READS IS OF BULK AT MOST 1048576: true; the input reads as it did. -/
def certLabelsUptoRow : OpenClaim := { program := "ytgihncjllelonaa", sum := "cc767171f3803cc517fbc23e7ab4fafba3c14f5d34a698fec46bc3a227dc2114", func := "bramble/bramblelaw15.CertLabels", spec := "certLabels", inPlace := ["math.Float32frombits", "math.Float32bits", "math.Float64frombits"], unfollowed := true, recurses := true, apart := false, narrowed := true }
def CertLabelsUptoSaid : Prop := certLabelsUptoRow.holds Try.pinned (OpenSpec.upto certLabelsSpec)

/-- 'bramblelaw15.CertOwn', WHERE WHAT IT READS IS OF BULK AT MOST 1048576: true; the input reads as it did. -/
def certOwnUptoRow : OpenClaim := { program := "ytgihncjllelonaa", sum := "cc767171f3803cc517fbc23e7ab4fafba3c14f5d34a698fec46bc3a227dc2114", func := "bramble/bramblelaw15.CertOwn", spec := "certOwn", inPlace := ["math.Float32frombits", "math.Float32bits", "math.Float64frombits"], unfollowed := true, recurses := true, apart := false, narrowed := true }
def CertOwnUptoSaid : Prop := certOwnUptoRow.holds Try.pinned (OpenSpec.upto certOwnSpec)

/-- 'bramblelaw15.CertTurned', WHERE WHAT IT READS IS OF BULK AT MOST 1048576: true; the input reads as it did. -/
def certTurnedUptoRow : OpenClaim := { program := "ytgihncjllelonaa", sum := "cc767171f3803cc517fbc23e7ab4fafba3c14f5d34a698fec46bc3a227dc2114", func := "bramble/bramblelaw15.CertTurned", spec := "certTurned", inPlace := ["math.Float32frombits", "math.Float32bits", "math.Float64frombits"], unfollowed := true, recurses := true, apart := false, narrowed := true }
def CertTurnedUptoSaid : Prop := certTurnedUptoRow.holds Try.pinned (OpenSpec.upto certTurnedSpec)

end Rows
end Go.Proofs.Ytgihncjllelonaa
