/-
  No cell of these rows narrows 'for every input' (looked for: loops, veiled, ifaces, maps, wideKeys, modest, calm, conditions, laid).
  DERIVED. THE GIVEN ROWS OF THIS SEAT. 4 by the template 'for every input the law returns true; each argument reads behind the call as it read before'; 0 by the template 'total and deterministic' (their statements: YtgihncjllelonaaGreatTotals.lean).
  GIVEN WITH THE SEED: the statements are not yours to turn. If you find one false, say at which input.
  Laid BY PROGRAM, IN A SANDBOX (cutbox-rows.mjs): the forced cells as the released guide's own fill.sh prints them over the translation 45d4f88dfae99561… (all of the seat's roots in one cut). By AI agents, Wed Nov 11 2026. No macro, syntax, notation, axiom, sorry.
-/
import Derived.Test.YtgihncjllelonaaGreatChecked
import GoSem.Claim
import GoSem.ClaimJoined
import GoSem.ClaimMapViews
import Derived.JoinedTies
import Derived.KernelRfl
namespace Go.Proofs.YtgihncjllelonaaGreat
/- THE CELL 'sum', in the pinned program and in every row, IS THE sha256 OF THE DUMP (.gsa) THAT YtgihncjllelonaaGreatProg.lean LOADS. Nothing in Lean hashes anything: it is a label: what it is worth is what the hold of that sum in a sandbox is worth. -/
noncomputable def Tryz.pinned : Pinned := { name := "ytgihncjllelonaagreat", sum := "45d4f88dfae99561f5caad295db0dbf4e18db27c021e3da6ac681053eaafa7ef", checked := Tryz.checked }
namespace Rows
def none {H : Type} : Left H := { results := [], args := [] }

/-- 'bramblelaw15.CertTree': WHATEVER THE INPUT: true; the input reads as it did. -/
def certTreeSpec : ChangeSpec := { name := "certTree", fn := fun _ => fun
  | [d1, d2, d3] => { results := [.lit (.bool true)], args := [d1, d2, d3] }
  | _ => none }
def certTreeRow : OpenClaim := { program := "ytgihncjllelonaagreat", sum := "45d4f88dfae99561f5caad295db0dbf4e18db27c021e3da6ac681053eaafa7ef", func := "bramble/bramblelaw15.CertTree", spec := "certTree", inPlace := ["math.Float32frombits", "math.Float32bits", "math.Float64frombits"], unfollowed := true, recurses := true, apart := false }
def CertTreeSaid : Prop := certTreeRow.holds Tryz.pinned (OpenSpec.ofChange certTreeSpec)

/-- ITS FALSE NEIGHBOUR: 'it returns false'. Refute it at one input. -/
def certTreeWrong : ChangeSpec := { name := "certTree", fn := fun _ => fun
  | [d1, d2, d3] => { results := [.lit (.bool false)], args := [d1, d2, d3] }
  | _ => none }
def CertTreeWrongFalsely : Prop := certTreeRow.holds Tryz.pinned (OpenSpec.ofChange certTreeWrong)

/-- 'bramblelaw22.AuditSounds': WHATEVER THE INPUT: true; the input reads as it did. -/
def auditSoundsSpec : ChangeSpec := { name := "auditSounds", fn := fun _ => fun
  | [d] => { results := [.lit (.bool true)], args := [d] }
  | _ => none }
def auditSoundsRow : OpenClaim := { program := "ytgihncjllelonaagreat", sum := "45d4f88dfae99561f5caad295db0dbf4e18db27c021e3da6ac681053eaafa7ef", func := "bramble/bramblelaw22.AuditSounds", spec := "auditSounds", inPlace := ["math.Float32frombits", "math.Float32bits", "math.Float64frombits"], unfollowed := true, recurses := true, apart := false }
def AuditSoundsSaid : Prop := auditSoundsRow.holds Tryz.pinned (OpenSpec.ofChange auditSoundsSpec)

/-- ITS FALSE NEIGHBOUR: 'it returns false'. Refute it at one input. -/
def auditSoundsWrong : ChangeSpec := { name := "auditSounds", fn := fun _ => fun
  | [d] => { results := [.lit (.bool false)], args := [d] }
  | _ => none }
def AuditSoundsWrongFalsely : Prop := auditSoundsRow.holds Tryz.pinned (OpenSpec.ofChange auditSoundsWrong)

/-- 'bramblelaw22.AuditJudges': WHATEVER THE INPUT: true; the input reads as it did. -/
def auditJudgesSpec : ChangeSpec := { name := "auditJudges", fn := fun _ => fun
  | [d] => { results := [.lit (.bool true)], args := [d] }
  | _ => none }
def auditJudgesRow : OpenClaim := { program := "ytgihncjllelonaagreat", sum := "45d4f88dfae99561f5caad295db0dbf4e18db27c021e3da6ac681053eaafa7ef", func := "bramble/bramblelaw22.AuditJudges", spec := "auditJudges", inPlace := ["math.Float32frombits", "math.Float32bits", "math.Float64frombits"], unfollowed := true, recurses := true, apart := false }
def AuditJudgesSaid : Prop := auditJudgesRow.holds Tryz.pinned (OpenSpec.ofChange auditJudgesSpec)

/-- ITS FALSE NEIGHBOUR: 'it returns false'. Refute it at one input. -/
def auditJudgesWrong : ChangeSpec := { name := "auditJudges", fn := fun _ => fun
  | [d] => { results := [.lit (.bool false)], args := [d] }
  | _ => none }
def AuditJudgesWrongFalsely : Prop := auditJudgesRow.holds Tryz.pinned (OpenSpec.ofChange auditJudgesWrong)

/-- 'bramblelaw15.CertTakes': WHATEVER THE INPUT: true; the input reads as it did. -/
def certTakesSpec : ChangeSpec := { name := "certTakes", fn := fun _ => fun
  | [d1, d2, d3] => { results := [.lit (.bool true)], args := [d1, d2, d3] }
  | _ => none }
def certTakesRow : OpenClaim := { program := "ytgihncjllelonaagreat", sum := "45d4f88dfae99561f5caad295db0dbf4e18db27c021e3da6ac681053eaafa7ef", func := "bramble/bramblelaw15.CertTakes", spec := "certTakes", inPlace := ["math.Float32frombits", "math.Float32bits", "math.Float64frombits"], unfollowed := true, recurses := true, apart := false }
def CertTakesSaid : Prop := certTakesRow.holds Tryz.pinned (OpenSpec.ofChange certTakesSpec)

/-- ITS FALSE NEIGHBOUR: 'it returns false'. Refute it at one input. -/
def certTakesWrong : ChangeSpec := { name := "certTakes", fn := fun _ => fun
  | [d1, d2, d3] => { results := [.lit (.bool false)], args := [d1, d2, d3] }
  | _ => none }
def CertTakesWrongFalsely : Prop := certTakesRow.holds Tryz.pinned (OpenSpec.ofChange certTakesWrong)

/- THE SECOND FORM. 'bulk': how many values and letters a reading holds, each counted each time it is reached (what is shared counts as often as it is met; a slice's spare places count too). A statement '..UptoSaid' is the law's where the arguments, and the package variables that the reading takes, are together of bulk at most 1048576: NARROWER than '..Said'. Prove '..Said' where nothing that the law and all that it calls make is longer than what came in: it says more and counts as full. Else prove '..UptoSaid'. A law counts once. -/
mutual
def uptoBulk {H : Type} : DataW H → Nat
  | .lit (.string bytes) => bytes.length + 1
  | .lit _ => 1
  | .nil => 1
  | .ptr d => uptoBulk d + 1
  | .slice elems spare => uptoBulkAll elems + uptoBulkAll spare + 1
  | .agg parts => uptoBulkAll parts + 1
  | .iface _ d => uptoBulk d + 1
  | .map entries => uptoBulkEntries entries + 1
  | .held _ => 1
def uptoBulkAll {H : Type} : List (DataW H) → Nat
  | [] => 0
  | d :: r => uptoBulk d + uptoBulkAll r
def uptoBulkEntries {H : Type} : List (Lit × DataW H) → Nat
  | [] => 0
  | x :: r => uptoBulkEntry x + uptoBulkEntries r
def uptoBulkEntry {H : Type} : Lit × DataW H → Nat
  | (.string bytes, d) => bytes.length + uptoBulk d + 1
  | (_, d) => uptoBulk d + 1
 end
def uptoSmall : (H : Type) → List (DataW H) → Bool := fun _ ds => decide (uptoBulkAll ds ≤ 1048576)
def OpenSpec.upto (s : _root_.Go.ChangeSpec) : _root_.Go.OpenSpec := { _root_.Go.OpenSpec.ofChange s with cond := some uptoSmall }

/-- 'bramblelaw15.CertTree', WHERE WHAT IT READS IS OF BULK AT MOST 1048576: true; the input reads as it did. -/
def certTreeUptoRow : OpenClaim := { program := "ytgihncjllelonaagreat", sum := "45d4f88dfae99561f5caad295db0dbf4e18db27c021e3da6ac681053eaafa7ef", func := "bramble/bramblelaw15.CertTree", spec := "certTree", inPlace := ["math.Float32frombits", "math.Float32bits", "math.Float64frombits"], unfollowed := true, recurses := true, apart := false, narrowed := true }
def CertTreeUptoSaid : Prop := certTreeUptoRow.holds Tryz.pinned (OpenSpec.upto certTreeSpec)

/-- 'bramblelaw22.AuditSounds', WHERE WHAT IT READS IS OF BULK AT MOST 1048576: true; the input reads as it did. -/
def auditSoundsUptoRow : OpenClaim := { program := "ytgihncjllelonaagreat", sum := "45d4f88dfae99561f5caad295db0dbf4e18db27c021e3da6ac681053eaafa7ef", func := "bramble/bramblelaw22.AuditSounds", spec := "auditSounds", inPlace := ["math.Float32frombits", "math.Float32bits", "math.Float64frombits"], unfollowed := true, recurses := true, apart := false, narrowed := true }
def AuditSoundsUptoSaid : Prop := auditSoundsUptoRow.holds Tryz.pinned (OpenSpec.upto auditSoundsSpec)

/-- 'bramblelaw22.AuditJudges', WHERE WHAT IT READS IS OF BULK AT MOST 1048576: true; the input reads as it did. -/
def auditJudgesUptoRow : OpenClaim := { program := "ytgihncjllelonaagreat", sum := "45d4f88dfae99561f5caad295db0dbf4e18db27c021e3da6ac681053eaafa7ef", func := "bramble/bramblelaw22.AuditJudges", spec := "auditJudges", inPlace := ["math.Float32frombits", "math.Float32bits", "math.Float64frombits"], unfollowed := true, recurses := true, apart := false, narrowed := true }
def AuditJudgesUptoSaid : Prop := auditJudgesUptoRow.holds Tryz.pinned (OpenSpec.upto auditJudgesSpec)

/-- 'bramblelaw15.CertTakes', WHERE WHAT IT READS IS OF BULK AT MOST 1048576: true; the input reads as it did. -/
def certTakesUptoRow : OpenClaim := { program := "ytgihncjllelonaagreat", sum := "45d4f88dfae99561f5caad295db0dbf4e18db27c021e3da6ac681053eaafa7ef", func := "bramble/bramblelaw15.CertTakes", spec := "certTakes", inPlace := ["math.Float32frombits", "math.Float32bits", "math.Float64frombits"], unfollowed := true, recurses := true, apart := false, narrowed := true }
def CertTakesUptoSaid : Prop := certTakesUptoRow.holds Tryz.pinned (OpenSpec.upto certTakesSpec)

end Rows
end Go.Proofs.YtgihncjllelonaaGreat
