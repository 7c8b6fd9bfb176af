/-
  No cell of these rows narrows 'for every input' (looked for: loops, veiled, ifaces, maps, wideKeys, modest, calm, conditions, laid).
  DERIVED. THE GIVEN ROWS OF THIS SEAT. 4 by the template 'for every input the law returns true; each argument reads behind the call as it read before'; 0 by the template 'total and deterministic' (their statements: YtegoogghlakghaaGreatTotals.lean).
  GIVEN WITH THE SEED: the statements are not yours to turn. If you find one false, say at which input.
  Laid BY PROGRAM, IN A SANDBOX (cutbox-rows.mjs): the forced cells as the released guide's own fill.sh prints them over the translation b1ab2196f61669ee… (all of the seat's roots in one cut). By AI agents, Wed Nov 11 2026. No macro, syntax, notation, axiom, sorry.
-/
import Derived.Test.YtegoogghlakghaaGreatChecked
import GoSem.Claim
import GoSem.ClaimJoined
import GoSem.ClaimMapViews
import Derived.JoinedTies
import Derived.KernelRfl
namespace Go.Proofs.YtegoogghlakghaaGreat
/- THE CELL 'sum', in the pinned program and in every row, IS THE sha256 OF THE DUMP (.gsa) THAT YtegoogghlakghaaGreatProg.lean LOADS. Nothing in Lean hashes anything: it is a label: what it is worth is what the hold of that sum in a sandbox is worth. -/
noncomputable def Tryz.pinned : Pinned := { name := "ytegoogghlakghaagreat", sum := "b1ab2196f61669eee8e584fe15bf7241f179de208449ace2e5398d280eb76b3f", checked := Tryz.checked }
namespace Rows
def none {H : Type} : Left H := { results := [], args := [] }

/-- 'boundstonelaw06.WalkChecks': WHATEVER THE INPUT: true; the input reads as it did. -/
def walkChecksSpec : ChangeSpec := { name := "walkChecks", fn := fun _ => fun
  | [d] => { results := [.lit (.bool true)], args := [d] }
  | _ => none }
def walkChecksRow : OpenClaim := { program := "ytegoogghlakghaagreat", sum := "b1ab2196f61669eee8e584fe15bf7241f179de208449ace2e5398d280eb76b3f", func := "boundstone/boundstonelaw06.WalkChecks", spec := "walkChecks", inPlace := ["math.sqrt"], unfollowed := true, recurses := true, apart := false }
def WalkChecksSaid : Prop := walkChecksRow.holds Tryz.pinned (OpenSpec.ofChange walkChecksSpec)

/-- ITS FALSE NEIGHBOUR: 'it returns false'. Refute it at one input. -/
def walkChecksWrong : ChangeSpec := { name := "walkChecks", fn := fun _ => fun
  | [d] => { results := [.lit (.bool false)], args := [d] }
  | _ => none }
def WalkChecksWrongFalsely : Prop := walkChecksRow.holds Tryz.pinned (OpenSpec.ofChange walkChecksWrong)

/-- 'boundstonelaw06.WalkRounds': WHATEVER THE INPUT: true; the input reads as it did. -/
def walkRoundsSpec : ChangeSpec := { name := "walkRounds", fn := fun _ => fun
  | [d1, d2] => { results := [.lit (.bool true)], args := [d1, d2] }
  | _ => none }
def walkRoundsRow : OpenClaim := { program := "ytegoogghlakghaagreat", sum := "b1ab2196f61669eee8e584fe15bf7241f179de208449ace2e5398d280eb76b3f", func := "boundstone/boundstonelaw06.WalkRounds", spec := "walkRounds", inPlace := ["math.sqrt"], unfollowed := true, recurses := true, apart := false }
def WalkRoundsSaid : Prop := walkRoundsRow.holds Tryz.pinned (OpenSpec.ofChange walkRoundsSpec)

/-- ITS FALSE NEIGHBOUR: 'it returns false'. Refute it at one input. -/
def walkRoundsWrong : ChangeSpec := { name := "walkRounds", fn := fun _ => fun
  | [d1, d2] => { results := [.lit (.bool false)], args := [d1, d2] }
  | _ => none }
def WalkRoundsWrongFalsely : Prop := walkRoundsRow.holds Tryz.pinned (OpenSpec.ofChange walkRoundsWrong)

/-- 'boundstonelaw06.WalkAreas': WHATEVER THE INPUT: true; the input reads as it did. -/
def walkAreasSpec : ChangeSpec := { name := "walkAreas", fn := fun _ => fun
  | [d1, d2, d3, d4] => { results := [.lit (.bool true)], args := [d1, d2, d3, d4] }
  | _ => none }
def walkAreasRow : OpenClaim := { program := "ytegoogghlakghaagreat", sum := "b1ab2196f61669eee8e584fe15bf7241f179de208449ace2e5398d280eb76b3f", func := "boundstone/boundstonelaw06.WalkAreas", spec := "walkAreas", inPlace := ["math.sqrt"], unfollowed := true, recurses := true, apart := false }
def WalkAreasSaid : Prop := walkAreasRow.holds Tryz.pinned (OpenSpec.ofChange walkAreasSpec)

/-- ITS FALSE NEIGHBOUR: 'it returns false'. Refute it at one input. -/
def walkAreasWrong : ChangeSpec := { name := "walkAreas", fn := fun _ => fun
  | [d1, d2, d3, d4] => { results := [.lit (.bool false)], args := [d1, d2, d3, d4] }
  | _ => none }
def WalkAreasWrongFalsely : Prop := walkAreasRow.holds Tryz.pinned (OpenSpec.ofChange walkAreasWrong)

/-- 'boundstonelaw06.WalkRings': WHATEVER THE INPUT: true; the input reads as it did. -/
def walkRingsSpec : ChangeSpec := { name := "walkRings", fn := fun _ => fun
  | [d1, d2, d3, d4] => { results := [.lit (.bool true)], args := [d1, d2, d3, d4] }
  | _ => none }
def walkRingsRow : OpenClaim := { program := "ytegoogghlakghaagreat", sum := "b1ab2196f61669eee8e584fe15bf7241f179de208449ace2e5398d280eb76b3f", func := "boundstone/boundstonelaw06.WalkRings", spec := "walkRings", inPlace := ["math.sqrt"], unfollowed := true, recurses := true, apart := false }
def WalkRingsSaid : Prop := walkRingsRow.holds Tryz.pinned (OpenSpec.ofChange walkRingsSpec)

/-- ITS FALSE NEIGHBOUR: 'it returns false'. Refute it at one input. -/
def walkRingsWrong : ChangeSpec := { name := "walkRings", fn := fun _ => fun
  | [d1, d2, d3, d4] => { results := [.lit (.bool false)], args := [d1, d2, d3, d4] }
  | _ => none }
def WalkRingsWrongFalsely : Prop := walkRingsRow.holds Tryz.pinned (OpenSpec.ofChange walkRingsWrong)

/- THE SECOND FORM. 'bulk': how many values and letters a reading holds, each counted each time it is reached (what is shared counts as often as it is met; a slice's spare places count too). A statement '..UptoSaid' is the law's where the arguments, and the package variables that the reading takes, are together of bulk at most 1048576: NARROWER than '..Said'. Prove '..Said' where nothing that the law and all that it calls make is longer than what came in: it says more and counts as full. Else prove '..UptoSaid'. A law counts once. -/
mutual
def uptoBulk {H : Type} : DataW H → Nat
  | .lit (.string bytes) => bytes.length + 1
  | .lit _ => 1
  | .nil => 1
  | .ptr d => uptoBulk d + 1
  | .slice elems spare => uptoBulkAll elems + uptoBulkAll spare + 1
  | .agg parts => uptoBulkAll parts + 1
  | .iface _ d => uptoBulk d + 1
  | .map entries => uptoBulkEntries entries + 1
  | .held _ => 1
def uptoBulkAll {H : Type} : List (DataW H) → Nat
  | [] => 0
  | d :: r => uptoBulk d + uptoBulkAll r
def uptoBulkEntries {H : Type} : List (Lit × DataW H) → Nat
  | [] => 0
  | x :: r => uptoBulkEntry x + uptoBulkEntries r
def uptoBulkEntry {H : Type} : Lit × DataW H → Nat
  | (.string bytes, d) => bytes.length + uptoBulk d + 1
  | (_, d) => uptoBulk d + 1
 end
def uptoSmall : (H : Type) → List (DataW H) → Bool := fun _ ds => decide (uptoBulkAll ds ≤ 1048576)
def OpenSpec.upto (s : _root_.Go.ChangeSpec) : _root_.Go.OpenSpec := { _root_.Go.OpenSpec.ofChange s with cond := some uptoSmall }

/-- 'boundstonelaw06.WalkChecks', WHERE WHAT IT READS IS OF BULK AT MOST 1048576: true; the input reads as it did. -/
def walkChecksUptoRow : OpenClaim := { program := "ytegoogghlakghaagreat", sum := "b1ab2196f61669eee8e584fe15bf7241f179de208449ace2e5398d280eb76b3f", func := "boundstone/boundstonelaw06.WalkChecks", spec := "walkChecks", inPlace := ["math.sqrt"], unfollowed := true, recurses := true, apart := false, narrowed := true }
def WalkChecksUptoSaid : Prop := walkChecksUptoRow.holds Tryz.pinned (OpenSpec.upto walkChecksSpec)

/-- 'boundstonelaw06.WalkRounds', WHERE WHAT IT READS IS OF BULK AT MOST 1048576: true; the input reads as it did. -/
def walkRoundsUptoRow : OpenClaim := { program := "ytegoogghlakghaagreat", sum := "b1ab2196f61669eee8e584fe15bf7241f179de208449ace2e5398d280eb76b3f", func := "boundstone/boundstonelaw06.WalkRounds", spec := "walkRounds", inPlace := ["math.sqrt"], unfollowed := true, recurses := true, apart := false, narrowed := true }
def WalkRoundsUptoSaid : Prop := walkRoundsUptoRow.holds Tryz.pinned (OpenSpec.upto walkRoundsSpec)

/-- 'boundstonelaw06.WalkAreas', WHERE WHAT IT READS IS OF BULK AT MOST 1048576: true; the input reads as it did. -/
def walkAreasUptoRow : OpenClaim := { program := "ytegoogghlakghaagreat", sum := "b1ab2196f61669eee8e584fe15bf7241f179de208449ace2e5398d280eb76b3f", func := "boundstone/boundstonelaw06.WalkAreas", spec := "walkAreas", inPlace := ["math.sqrt"], unfollowed := true, recurses := true, apart := false, narrowed := true }
def WalkAreasUptoSaid : Prop := walkAreasUptoRow.holds Tryz.pinned (OpenSpec.upto walkAreasSpec)

/-- 'boundstonelaw06.WalkRings', WHERE WHAT IT READS IS OF BULK AT MOST 1048576: true; the input reads as it did. -/
def walkRingsUptoRow : OpenClaim := { program := "ytegoogghlakghaagreat", sum := "b1ab2196f61669eee8e584fe15bf7241f179de208449ace2e5398d280eb76b3f", func := "boundstone/boundstonelaw06.WalkRings", spec := "walkRings", inPlace := ["math.sqrt"], unfollowed := true, recurses := true, apart := false, narrowed := true }
def WalkRingsUptoSaid : Prop := walkRingsUptoRow.holds Tryz.pinned (OpenSpec.upto walkRingsSpec)

end Rows
end Go.Proofs.YtegoogghlakghaaGreat
