/-
  No cell of these rows narrows 'for every input' (looked for: loops, veiled, ifaces, maps, wideKeys, modest, calm, conditions, laid).
  DERIVED. THE GIVEN ROWS OF THIS SEAT. 5 by the template 'for every input the law returns true; each argument reads behind the call as it read before'; 0 by the template 'total and deterministic' (their statements: YtdohfjidnbhfnaaTotals.lean).
  GIVEN WITH THE SEED: the statements are not yours to turn. If you find one false, say at which input.
  Laid BY PROGRAM, IN A SANDBOX (cutbox-rows.mjs): the forced cells as the released guide's own fill.sh prints them over the translation 515f00a59ca9a753… (all of the seat's roots in one cut). By AI agents, Wed Nov 11 2026. No macro, syntax, notation, axiom, sorry.
-/
import Derived.Test.YtdohfjidnbhfnaaChecked
import GoSem.Claim
import GoSem.ClaimJoined
import GoSem.ClaimMapViews
import Derived.JoinedTies
import Derived.KernelRfl
namespace Go.Proofs.Ytdohfjidnbhfnaa
/- THE CELL 'sum', in the pinned program and in every row, IS THE sha256 OF THE DUMP (.gsa) THAT YtdohfjidnbhfnaaProg.lean LOADS. Nothing in Lean hashes anything: it is a label: what it is worth is what the hold of that sum in a sandbox is worth. -/
noncomputable def Try.pinned : Pinned := { name := "ytdohfjidnbhfnaa", sum := "515f00a59ca9a7534b84e703de5e1ac55869b43fe7bb11aade788d27262cb98e", checked := Try.checked }
namespace Rows
def none {H : Type} : Left H := { results := [], args := [] }

/-- 'bramblelaw11.CoverAgain': WHATEVER THE INPUT: true; the input reads as it did. -/
def coverAgainSpec : ChangeSpec := { name := "coverAgain", fn := fun _ => fun
  | [d1, d2, d3] => { results := [.lit (.bool true)], args := [d1, d2, d3] }
  | _ => none }
def coverAgainRow : OpenClaim := { program := "ytdohfjidnbhfnaa", sum := "515f00a59ca9a7534b84e703de5e1ac55869b43fe7bb11aade788d27262cb98e", func := "bramble/bramblelaw11.CoverAgain", spec := "coverAgain", unfollowed := true, recurses := true, apart := false }
def CoverAgainSaid : Prop := coverAgainRow.holds Try.pinned (OpenSpec.ofChange coverAgainSpec)

/-- ITS FALSE NEIGHBOUR: 'it returns false'. Refute it at one input. -/
def coverAgainWrong : ChangeSpec := { name := "coverAgain", fn := fun _ => fun
  | [d1, d2, d3] => { results := [.lit (.bool false)], args := [d1, d2, d3] }
  | _ => none }
def CoverAgainWrongFalsely : Prop := coverAgainRow.holds Try.pinned (OpenSpec.ofChange coverAgainWrong)

/-- 'bramblelaw11.CoverBuilds': WHATEVER THE INPUT: true; the input reads as it did. -/
def coverBuildsSpec : ChangeSpec := { name := "coverBuilds", fn := fun _ => fun
  | [d1, d2] => { results := [.lit (.bool true)], args := [d1, d2] }
  | _ => none }
def coverBuildsRow : OpenClaim := { program := "ytdohfjidnbhfnaa", sum := "515f00a59ca9a7534b84e703de5e1ac55869b43fe7bb11aade788d27262cb98e", func := "bramble/bramblelaw11.CoverBuilds", spec := "coverBuilds", unfollowed := true, recurses := true, apart := false }
def CoverBuildsSaid : Prop := coverBuildsRow.holds Try.pinned (OpenSpec.ofChange coverBuildsSpec)

/-- ITS FALSE NEIGHBOUR: 'it returns false'. Refute it at one input. -/
def coverBuildsWrong : ChangeSpec := { name := "coverBuilds", fn := fun _ => fun
  | [d1, d2] => { results := [.lit (.bool false)], args := [d1, d2] }
  | _ => none }
def CoverBuildsWrongFalsely : Prop := coverBuildsRow.holds Try.pinned (OpenSpec.ofChange coverBuildsWrong)

/-- 'bramblelaw11.CoverOwn': WHATEVER THE INPUT: true; the input reads as it did. -/
def coverOwnSpec : ChangeSpec := { name := "coverOwn", fn := fun _ => fun
  | [d1, d2, d3] => { results := [.lit (.bool true)], args := [d1, d2, d3] }
  | _ => none }
def coverOwnRow : OpenClaim := { program := "ytdohfjidnbhfnaa", sum := "515f00a59ca9a7534b84e703de5e1ac55869b43fe7bb11aade788d27262cb98e", func := "bramble/bramblelaw11.CoverOwn", spec := "coverOwn", unfollowed := true, recurses := true, apart := false }
def CoverOwnSaid : Prop := coverOwnRow.holds Try.pinned (OpenSpec.ofChange coverOwnSpec)

/-- ITS FALSE NEIGHBOUR: 'it returns false'. Refute it at one input. -/
def coverOwnWrong : ChangeSpec := { name := "coverOwn", fn := fun _ => fun
  | [d1, d2, d3] => { results := [.lit (.bool false)], args := [d1, d2, d3] }
  | _ => none }
def CoverOwnWrongFalsely : Prop := coverOwnRow.holds Try.pinned (OpenSpec.ofChange coverOwnWrong)

/-- 'bramblelaw11.CoverGrows': WHATEVER THE INPUT: true; the input reads as it did. -/
def coverGrowsSpec : ChangeSpec := { name := "coverGrows", fn := fun _ => fun
  | [d1, d2, d3] => { results := [.lit (.bool true)], args := [d1, d2, d3] }
  | _ => none }
def coverGrowsRow : OpenClaim := { program := "ytdohfjidnbhfnaa", sum := "515f00a59ca9a7534b84e703de5e1ac55869b43fe7bb11aade788d27262cb98e", func := "bramble/bramblelaw11.CoverGrows", spec := "coverGrows", unfollowed := true, recurses := true, apart := false }
def CoverGrowsSaid : Prop := coverGrowsRow.holds Try.pinned (OpenSpec.ofChange coverGrowsSpec)

/-- ITS FALSE NEIGHBOUR: 'it returns false'. Refute it at one input. -/
def coverGrowsWrong : ChangeSpec := { name := "coverGrows", fn := fun _ => fun
  | [d1, d2, d3] => { results := [.lit (.bool false)], args := [d1, d2, d3] }
  | _ => none }
def CoverGrowsWrongFalsely : Prop := coverGrowsRow.holds Try.pinned (OpenSpec.ofChange coverGrowsWrong)

/-- 'bramblelaw11.CoverHolds': WHATEVER THE INPUT: true; the input reads as it did. -/
def coverHoldsSpec : ChangeSpec := { name := "coverHolds", fn := fun _ => fun
  | [d1, d2, d3] => { results := [.lit (.bool true)], args := [d1, d2, d3] }
  | _ => none }
def coverHoldsRow : OpenClaim := { program := "ytdohfjidnbhfnaa", sum := "515f00a59ca9a7534b84e703de5e1ac55869b43fe7bb11aade788d27262cb98e", func := "bramble/bramblelaw11.CoverHolds", spec := "coverHolds", unfollowed := true, recurses := true, apart := false }
def CoverHoldsSaid : Prop := coverHoldsRow.holds Try.pinned (OpenSpec.ofChange coverHoldsSpec)

/-- ITS FALSE NEIGHBOUR: 'it returns false'. Refute it at one input. -/
def coverHoldsWrong : ChangeSpec := { name := "coverHolds", fn := fun _ => fun
  | [d1, d2, d3] => { results := [.lit (.bool false)], args := [d1, d2, d3] }
  | _ => none }
def CoverHoldsWrongFalsely : Prop := coverHoldsRow.holds Try.pinned (OpenSpec.ofChange coverHoldsWrong)

/- THE SECOND FORM. 'bulk': how many values and letters a reading holds, each counted each time it is reached (what is shared counts as often as it is met; a slice's spare places count too). A statement '..UptoSaid' is the law's where the arguments, and the package variables that the reading takes, are together of bulk at most 1048576: NARROWER than '..Said'. Prove '..Said' where nothing that the law and all that it calls make is longer than what came in: it says more and counts as full. Else prove '..UptoSaid'. A law counts once. -/
mutual
def uptoBulk {H : Type} : DataW H → Nat
  | .lit (.string bytes) => bytes.length + 1
  | .lit _ => 1
  | .nil => 1
  | .ptr d => uptoBulk d + 1
  | .slice elems spare => uptoBulkAll elems + uptoBulkAll spare + 1
  | .agg parts => uptoBulkAll parts + 1
  | .iface _ d => uptoBulk d + 1
  | .map entries => uptoBulkEntries entries + 1
  | .held _ => 1
def uptoBulkAll {H : Type} : List (DataW H) → Nat
  | [] => 0
  | d :: r => uptoBulk d + uptoBulkAll r
def uptoBulkEntries {H : Type} : List (Lit × DataW H) → Nat
  | [] => 0
  | x :: r => uptoBulkEntry x + uptoBulkEntries r
def uptoBulkEntry {H : Type} : Lit × DataW H → Nat
  | (.string bytes, d) => bytes.length + uptoBulk d + 1
  | (_, d) => uptoBulk d + 1
 end
def uptoSmall : (H : Type) → List (DataW H) → Bool := fun _ ds => decide (uptoBulkAll ds ≤ 1048576)
def OpenSpec.upto (s : _root_.Go.ChangeSpec) : _root_.Go.OpenSpec := { _root_.Go.OpenSpec.ofChange s with cond := some uptoSmall }

/-- 'bramblelaw11.CoverAgain', WHERE WHAT IT READS IS OF BULK AT MOST 1048576: true; the input reads as it did. -/
def coverAgainUptoRow : OpenClaim := { program := "ytdohfjidnbhfnaa", sum := "515f00a59ca9a7534b84e703de5e1ac55869b43fe7bb11aade788d27262cb98e", func := "bramble/bramblelaw11.CoverAgain", spec := "coverAgain", unfollowed := true, recurses := true, apart := false, narrowed := true }
def CoverAgainUptoSaid : Prop := coverAgainUptoRow.holds Try.pinned (OpenSpec.upto coverAgainSpec)

/-- 'bramblelaw11.CoverBuilds', WHERE WHAT IT READS IS OF BULK AT MOST 1048576: true; the input reads as it did. -/
def coverBuildsUptoRow : OpenClaim := { program := "ytdohfjidnbhfnaa", sum := "515f00a59ca9a7534b84e703de5e1ac55869b43fe7bb11aade788d27262cb98e", func := "bramble/bramblelaw11.CoverBuilds", spec := "coverBuilds", unfollowed := true, recurses := true, apart := false, narrowed := true }
def CoverBuildsUptoSaid : Prop := coverBuildsUptoRow.holds Try.pinned (OpenSpec.upto coverBuildsSpec)

/-- 'bramblelaw11.CoverOwn', WHERE WHAT IT READS IS OF BULK AT MOST 1048576: true; the input reads as it did. -/
def coverOwnUptoRow : OpenClaim := { program := "ytdohfjidnbhfnaa", sum := "515f00a59ca9a7534b84e703de5e1ac55869b43fe7bb11aade788d27262cb98e", func := "bramble/bramblelaw11.CoverOwn", spec := "coverOwn", unfollowed := true, recurses := true, apart := false, narrowed := true }
def CoverOwnUptoSaid : Prop := coverOwnUptoRow.holds Try.pinned (OpenSpec.upto coverOwnSpec)

/-- 'bramblelaw11.CoverGrows', WHERE WHAT IT READS IS OF BULK AT MOST 1048576: true; the input reads as it did. -/
def coverGrowsUptoRow : OpenClaim := { program := "ytdohfjidnbhfnaa", sum := "515f00a59ca9a7534b84e703de5e1ac55869b43fe7bb11aade788d27262cb98e", func := "bramble/bramblelaw11.CoverGrows", spec := "coverGrows", unfollowed := true, recurses := true, apart := false, narrowed := true }
def CoverGrowsUptoSaid : Prop := coverGrowsUptoRow.holds Try.pinned (OpenSpec.upto coverGrowsSpec)

/-- 'bramblelaw11.CoverHolds', WHERE WHAT IT READS IS OF BULK AT MOST 1048576: true; the input reads as it did. -/
def coverHoldsUptoRow : OpenClaim := { program := "ytdohfjidnbhfnaa", sum := "515f00a59ca9a7534b84e703de5e1ac55869b43fe7bb11aade788d27262cb98e", func := "bramble/bramblelaw11.CoverHolds", spec := "coverHolds", unfollowed := true, recurses := true, apart := false, narrowed := true }
def CoverHoldsUptoSaid : Prop := coverHoldsUptoRow.holds Try.pinned (OpenSpec.upto coverHoldsSpec)

end Rows
end Go.Proofs.Ytdohfjidnbhfnaa
