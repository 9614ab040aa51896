/-
  No cell of these rows narrows 'for every input' (looked for: loops, veiled, ifaces, maps, wideKeys, modest, calm, conditions, laid).
  DERIVED. THE GIVEN ROWS OF THIS SEAT. 3 by the template 'for every input the law returns true; each argument reads behind the call as it read before'; 0 by the template 'total and deterministic' (their statements: YtfemipneckhngaaGreatTotals.lean).
  GIVEN WITH THE SEED: the statements are not yours to turn. If you find one false, say at which input.
  Laid BY PROGRAM, IN A SANDBOX (cutbox-rows.mjs): the forced cells as the released guide's own fill.sh prints them over the translation a22bba307ed1d0d5… (all of the seat's roots in one cut). By AI agents, Wed Nov 11 2026. No macro, syntax, notation, axiom, sorry.
-/
import Derived.Test.YtfemipneckhngaaGreatChecked
import GoSem.Claim
import GoSem.ClaimJoined
import GoSem.ClaimMapViews
import Derived.JoinedTies
import Derived.KernelRfl
namespace Go.Proofs.YtfemipneckhngaaGreat
/- THE CELL 'sum', in the pinned program and in every row, IS THE sha256 OF THE DUMP (.gsa) THAT YtfemipneckhngaaGreatProg.lean LOADS. Nothing in Lean hashes anything: it is a label: what it is worth is what the hold of that sum in a sandbox is worth. -/
noncomputable def Tryz.pinned : Pinned := { name := "ytfemipneckhngaagreat", sum := "a22bba307ed1d0d5e845f585a2eea24e94d56c1b224fa27aa2df2e49111c38db", checked := Tryz.checked }
namespace Rows
def none {H : Type} : Left H := { results := [], args := [] }

/-- 'madrigallaw21.MusicKnown': WHATEVER THE INPUT: true; the input reads as it did. -/
def musicKnownSpec : ChangeSpec := { name := "musicKnown", fn := fun _ => fun
  | [] => { results := [.lit (.bool true)], args := [] }
  | _ => none }
def musicKnownRow : OpenClaim := { program := "ytfemipneckhngaagreat", sum := "a22bba307ed1d0d5e845f585a2eea24e94d56c1b224fa27aa2df2e49111c38db", func := "madrigal/madrigallaw21.MusicKnown", spec := "musicKnown", inPlace := ["math/bits.Add64"], unfollowed := true, recurses := true, named := ["math/bits.divideError", "math/bits.overflowError"], apart := false }
def MusicKnownSaid : Prop := musicKnownRow.holds Tryz.pinned (OpenSpec.ofChange musicKnownSpec)

/-- ITS FALSE NEIGHBOUR: 'it returns false'. Refute it at one input. -/
def musicKnownWrong : ChangeSpec := { name := "musicKnown", fn := fun _ => fun
  | [] => { results := [.lit (.bool false)], args := [] }
  | _ => none }
def MusicKnownWrongFalsely : Prop := musicKnownRow.holds Tryz.pinned (OpenSpec.ofChange musicKnownWrong)

/-- 'madrigallaw24.FrameKnown': WHATEVER THE INPUT: true; the input reads as it did. -/
def frameKnownSpec : ChangeSpec := { name := "frameKnown", fn := fun _ => fun
  | [] => { results := [.lit (.bool true)], args := [] }
  | _ => none }
def frameKnownRow : OpenClaim := { program := "ytfemipneckhngaagreat", sum := "a22bba307ed1d0d5e845f585a2eea24e94d56c1b224fa27aa2df2e49111c38db", func := "madrigal/madrigallaw24.FrameKnown", spec := "frameKnown", inPlace := ["math/bits.Add64"], unfollowed := true, recurses := true, named := ["math/bits.divideError", "math/bits.overflowError"], apart := false }
def FrameKnownSaid : Prop := frameKnownRow.holds Tryz.pinned (OpenSpec.ofChange frameKnownSpec)

/-- ITS FALSE NEIGHBOUR: 'it returns false'. Refute it at one input. -/
def frameKnownWrong : ChangeSpec := { name := "frameKnown", fn := fun _ => fun
  | [] => { results := [.lit (.bool false)], args := [] }
  | _ => none }
def FrameKnownWrongFalsely : Prop := frameKnownRow.holds Tryz.pinned (OpenSpec.ofChange frameKnownWrong)

/-- 'madrigallaw25.DecKnown': WHATEVER THE INPUT: true; the input reads as it did. -/
def decKnownSpec : ChangeSpec := { name := "decKnown", fn := fun _ => fun
  | [] => { results := [.lit (.bool true)], args := [] }
  | _ => none }
def decKnownRow : OpenClaim := { program := "ytfemipneckhngaagreat", sum := "a22bba307ed1d0d5e845f585a2eea24e94d56c1b224fa27aa2df2e49111c38db", func := "madrigal/madrigallaw25.DecKnown", spec := "decKnown", unfollowed := true, recurses := true, apart := false }
def DecKnownSaid : Prop := decKnownRow.holds Tryz.pinned (OpenSpec.ofChange decKnownSpec)

/-- ITS FALSE NEIGHBOUR: 'it returns false'. Refute it at one input. -/
def decKnownWrong : ChangeSpec := { name := "decKnown", fn := fun _ => fun
  | [] => { results := [.lit (.bool false)], args := [] }
  | _ => none }
def DecKnownWrongFalsely : Prop := decKnownRow.holds Tryz.pinned (OpenSpec.ofChange decKnownWrong)

/- THE SECOND FORM. 'bulk': how many values and letters a reading holds, each counted each time it is reached (what is shared counts as often as it is met; a slice's spare places count too). A statement '..UptoSaid' is the law's where the arguments, and the package variables that the reading takes, are together of bulk at most 1048576: NARROWER than '..Said'. Prove '..Said' where nothing that the law and all that it calls make is longer than what came in: it says more and counts as full. Else prove '..UptoSaid'. A law counts once. -/
mutual
def uptoBulk {H : Type} : DataW H → Nat
  | .lit (.string bytes) => bytes.length + 1
  | .lit _ => 1
  | .nil => 1
  | .ptr d => uptoBulk d + 1
  | .slice elems spare => uptoBulkAll elems + uptoBulkAll spare + 1
  | .agg parts => uptoBulkAll parts + 1
  | .iface _ d => uptoBulk d + 1
  | .map entries => uptoBulkEntries entries + 1
  | .held _ => 1
def uptoBulkAll {H : Type} : List (DataW H) → Nat
  | [] => 0
  | d :: r => uptoBulk d + uptoBulkAll r
def uptoBulkEntries {H : Type} : List (Lit × DataW H) → Nat
  | [] => 0
  | x :: r => uptoBulkEntry x + uptoBulkEntries r
def uptoBulkEntry {H : Type} : Lit × DataW H → Nat
  | (.string bytes, d) => bytes.length + uptoBulk d + 1
  | (_, d) => uptoBulk d + 1
 end
def uptoSmall : (H : Type) → List (DataW H) → Bool := fun _ ds => decide (uptoBulkAll ds ≤ 1048576)
def OpenSpec.upto (s : _root_.Go.ChangeSpec) : _root_.Go.OpenSpec := { _root_.Go.OpenSpec.ofChange s with cond := some uptoSmall }

/-- 'madrigallaw21.MusicKnown', WHERE WHAT IT READS IS OF BULK AT MOST 1048576: true; the input reads as it did. -/
def musicKnownUptoRow : OpenClaim := { program := "ytfemipneckhngaagreat", sum := "a22bba307ed1d0d5e845f585a2eea24e94d56c1b224fa27aa2df2e49111c38db", func := "madrigal/madrigallaw21.MusicKnown", spec := "musicKnown", inPlace := ["math/bits.Add64"], unfollowed := true, recurses := true, named := ["math/bits.divideError", "math/bits.overflowError"], apart := false, narrowed := true }
def MusicKnownUptoSaid : Prop := musicKnownUptoRow.holds Tryz.pinned (OpenSpec.upto musicKnownSpec)

/-- 'madrigallaw24.FrameKnown', WHERE WHAT IT READS IS OF BULK AT MOST 1048576: true; the input reads as it did. -/
def frameKnownUptoRow : OpenClaim := { program := "ytfemipneckhngaagreat", sum := "a22bba307ed1d0d5e845f585a2eea24e94d56c1b224fa27aa2df2e49111c38db", func := "madrigal/madrigallaw24.FrameKnown", spec := "frameKnown", inPlace := ["math/bits.Add64"], unfollowed := true, recurses := true, named := ["math/bits.divideError", "math/bits.overflowError"], apart := false, narrowed := true }
def FrameKnownUptoSaid : Prop := frameKnownUptoRow.holds Tryz.pinned (OpenSpec.upto frameKnownSpec)

/-- 'madrigallaw25.DecKnown', WHERE WHAT IT READS IS OF BULK AT MOST 1048576: true; the input reads as it did. -/
def decKnownUptoRow : OpenClaim := { program := "ytfemipneckhngaagreat", sum := "a22bba307ed1d0d5e845f585a2eea24e94d56c1b224fa27aa2df2e49111c38db", func := "madrigal/madrigallaw25.DecKnown", spec := "decKnown", unfollowed := true, recurses := true, apart := false, narrowed := true }
def DecKnownUptoSaid : Prop := decKnownUptoRow.holds Tryz.pinned (OpenSpec.upto decKnownSpec)

end Rows
end Go.Proofs.YtfemipneckhngaaGreat
