/-
  No cell of these rows narrows 'for every input' (looked for: loops, veiled, ifaces, maps, wideKeys, modest, calm, conditions, laid).
  DERIVED. THE GIVEN ROWS OF THIS SEAT. 6 by the template 'for every input the law returns true; each argument reads behind the call as it read before'; 0 by the template 'total and deterministic' (their statements: YtnhbohcjmdfmiaaGreatTotals.lean).
  GIVEN WITH THE SEED: the statements are not yours to turn. If you find one false, say at which input.
  Laid BY PROGRAM, IN A SANDBOX (cutbox-rows.mjs): the forced cells as the released guide's own fill.sh prints them over the translation b8fc956250134931… (all of the seat's roots in one cut). By AI agents, Wed Nov 11 2026. No macro, syntax, notation, axiom, sorry.
-/
import Derived.Test.YtnhbohcjmdfmiaaGreatChecked
import GoSem.Claim
import GoSem.ClaimJoined
import GoSem.ClaimMapViews
import Derived.JoinedTies
import Derived.KernelRfl
namespace Go.Proofs.YtnhbohcjmdfmiaaGreat
/- THE CELL 'sum', in the pinned program and in every row, IS THE sha256 OF THE DUMP (.gsa) THAT YtnhbohcjmdfmiaaGreatProg.lean LOADS. Nothing in Lean hashes anything: it is a label: what it is worth is what the hold of that sum in a sandbox is worth. -/
noncomputable def Tryz.pinned : Pinned := { name := "ytnhbohcjmdfmiaagreat", sum := "b8fc956250134931cad314fd484f5a734dbbe75a238246dcecb2e88539eb50c2", checked := Tryz.checked }
namespace Rows
def none {H : Type} : Left H := { results := [], args := [] }

/-- 'madrigallaw21.MusicPlays': WHATEVER THE INPUT: true; the input reads as it did. -/
def musicPlaysSpec : ChangeSpec := { name := "musicPlays", fn := fun _ => fun
  | [d1, d2, d3, d4] => { results := [.lit (.bool true)], args := [d1, d2, d3, d4] }
  | _ => none }
def musicPlaysRow : OpenClaim := { program := "ytnhbohcjmdfmiaagreat", sum := "b8fc956250134931cad314fd484f5a734dbbe75a238246dcecb2e88539eb50c2", func := "madrigal/madrigallaw21.MusicPlays", spec := "musicPlays", inPlace := ["math/bits.Add64"], unfollowed := true, recurses := true, named := ["math/bits.divideError", "math/bits.overflowError"], apart := false }
def MusicPlaysSaid : Prop := musicPlaysRow.holds Tryz.pinned (OpenSpec.ofChange musicPlaysSpec)

/-- ITS FALSE NEIGHBOUR: 'it returns false'. Refute it at one input. -/
def musicPlaysWrong : ChangeSpec := { name := "musicPlays", fn := fun _ => fun
  | [d1, d2, d3, d4] => { results := [.lit (.bool false)], args := [d1, d2, d3, d4] }
  | _ => none }
def MusicPlaysWrongFalsely : Prop := musicPlaysRow.holds Tryz.pinned (OpenSpec.ofChange musicPlaysWrong)

/-- 'madrigallaw21.MusicWrites': WHATEVER THE INPUT: true; the input reads as it did. -/
def musicWritesSpec : ChangeSpec := { name := "musicWrites", fn := fun _ => fun
  | [d1, d2, d3, d4] => { results := [.lit (.bool true)], args := [d1, d2, d3, d4] }
  | _ => none }
def musicWritesRow : OpenClaim := { program := "ytnhbohcjmdfmiaagreat", sum := "b8fc956250134931cad314fd484f5a734dbbe75a238246dcecb2e88539eb50c2", func := "madrigal/madrigallaw21.MusicWrites", spec := "musicWrites", inPlace := ["math/bits.Add64"], unfollowed := true, recurses := true, named := ["math/bits.divideError", "math/bits.overflowError"], apart := false }
def MusicWritesSaid : Prop := musicWritesRow.holds Tryz.pinned (OpenSpec.ofChange musicWritesSpec)

/-- ITS FALSE NEIGHBOUR: 'it returns false'. Refute it at one input. -/
def musicWritesWrong : ChangeSpec := { name := "musicWrites", fn := fun _ => fun
  | [d1, d2, d3, d4] => { results := [.lit (.bool false)], args := [d1, d2, d3, d4] }
  | _ => none }
def MusicWritesWrongFalsely : Prop := musicWritesRow.holds Tryz.pinned (OpenSpec.ofChange musicWritesWrong)

/-- 'madrigallaw21.MusicFresh': WHATEVER THE INPUT: true; the input reads as it did. -/
def musicFreshSpec : ChangeSpec := { name := "musicFresh", fn := fun _ => fun
  | [d1, d2, d3, d4, d5, d6] => { results := [.lit (.bool true)], args := [d1, d2, d3, d4, d5, d6] }
  | _ => none }
def musicFreshRow : OpenClaim := { program := "ytnhbohcjmdfmiaagreat", sum := "b8fc956250134931cad314fd484f5a734dbbe75a238246dcecb2e88539eb50c2", func := "madrigal/madrigallaw21.MusicFresh", spec := "musicFresh", inPlace := ["math/bits.Add64"], unfollowed := true, recurses := true, named := ["math/bits.divideError", "math/bits.overflowError"], apart := false }
def MusicFreshSaid : Prop := musicFreshRow.holds Tryz.pinned (OpenSpec.ofChange musicFreshSpec)

/-- ITS FALSE NEIGHBOUR: 'it returns false'. Refute it at one input. -/
def musicFreshWrong : ChangeSpec := { name := "musicFresh", fn := fun _ => fun
  | [d1, d2, d3, d4, d5, d6] => { results := [.lit (.bool false)], args := [d1, d2, d3, d4, d5, d6] }
  | _ => none }
def MusicFreshWrongFalsely : Prop := musicFreshRow.holds Tryz.pinned (OpenSpec.ofChange musicFreshWrong)

/-- 'madrigallaw21.MusicJoint': WHATEVER THE INPUT: true; the input reads as it did. -/
def musicJointSpec : ChangeSpec := { name := "musicJoint", fn := fun _ => fun
  | [d1, d2] => { results := [.lit (.bool true)], args := [d1, d2] }
  | _ => none }
def musicJointRow : OpenClaim := { program := "ytnhbohcjmdfmiaagreat", sum := "b8fc956250134931cad314fd484f5a734dbbe75a238246dcecb2e88539eb50c2", func := "madrigal/madrigallaw21.MusicJoint", spec := "musicJoint", inPlace := ["math/bits.Add64"], unfollowed := true, recurses := true, named := ["math/bits.divideError", "math/bits.overflowError"], apart := false }
def MusicJointSaid : Prop := musicJointRow.holds Tryz.pinned (OpenSpec.ofChange musicJointSpec)

/-- ITS FALSE NEIGHBOUR: 'it returns false'. Refute it at one input. -/
def musicJointWrong : ChangeSpec := { name := "musicJoint", fn := fun _ => fun
  | [d1, d2] => { results := [.lit (.bool false)], args := [d1, d2] }
  | _ => none }
def MusicJointWrongFalsely : Prop := musicJointRow.holds Tryz.pinned (OpenSpec.ofChange musicJointWrong)

/-- 'madrigallaw21.MusicTells': WHATEVER THE INPUT: true; the input reads as it did. -/
def musicTellsSpec : ChangeSpec := { name := "musicTells", fn := fun _ => fun
  | [d1, d2] => { results := [.lit (.bool true)], args := [d1, d2] }
  | _ => none }
def musicTellsRow : OpenClaim := { program := "ytnhbohcjmdfmiaagreat", sum := "b8fc956250134931cad314fd484f5a734dbbe75a238246dcecb2e88539eb50c2", func := "madrigal/madrigallaw21.MusicTells", spec := "musicTells", inPlace := ["math/bits.Add64"], unfollowed := true, recurses := true, named := ["math/bits.divideError", "math/bits.overflowError"], apart := false }
def MusicTellsSaid : Prop := musicTellsRow.holds Tryz.pinned (OpenSpec.ofChange musicTellsSpec)

/-- ITS FALSE NEIGHBOUR: 'it returns false'. Refute it at one input. -/
def musicTellsWrong : ChangeSpec := { name := "musicTells", fn := fun _ => fun
  | [d1, d2] => { results := [.lit (.bool false)], args := [d1, d2] }
  | _ => none }
def MusicTellsWrongFalsely : Prop := musicTellsRow.holds Tryz.pinned (OpenSpec.ofChange musicTellsWrong)

/-- 'madrigallaw21.MusicCopies': WHATEVER THE INPUT: true; the input reads as it did. -/
def musicCopiesSpec : ChangeSpec := { name := "musicCopies", fn := fun _ => fun
  | [d1, d2, d3] => { results := [.lit (.bool true)], args := [d1, d2, d3] }
  | _ => none }
def musicCopiesRow : OpenClaim := { program := "ytnhbohcjmdfmiaagreat", sum := "b8fc956250134931cad314fd484f5a734dbbe75a238246dcecb2e88539eb50c2", func := "madrigal/madrigallaw21.MusicCopies", spec := "musicCopies", inPlace := ["math/bits.Add64"], unfollowed := true, recurses := true, named := ["math/bits.divideError", "math/bits.overflowError"], apart := false }
def MusicCopiesSaid : Prop := musicCopiesRow.holds Tryz.pinned (OpenSpec.ofChange musicCopiesSpec)

/-- ITS FALSE NEIGHBOUR: 'it returns false'. Refute it at one input. -/
def musicCopiesWrong : ChangeSpec := { name := "musicCopies", fn := fun _ => fun
  | [d1, d2, d3] => { results := [.lit (.bool false)], args := [d1, d2, d3] }
  | _ => none }
def MusicCopiesWrongFalsely : Prop := musicCopiesRow.holds Tryz.pinned (OpenSpec.ofChange musicCopiesWrong)

/- THE SECOND FORM. 'bulk': how many values and letters a reading holds, each counted each time it is reached (what is shared counts as often as it is met; a slice's spare places count too). A statement '..UptoSaid' is the law's where the arguments, and the package variables that the reading takes, are together of bulk at most 1048576: NARROWER than '..Said'. Prove '..Said' where nothing that the law and all that it calls make is longer than what came in: it says more and counts as full. Else prove '..UptoSaid'. A law counts once. -/
mutual
def uptoBulk {H : Type} : DataW H → Nat
  | .lit (.string bytes) => bytes.length + 1
  | .lit _ => 1
  | .nil => 1
  | .ptr d => uptoBulk d + 1
  | .slice elems spare => uptoBulkAll elems + uptoBulkAll spare + 1
  | .agg parts => uptoBulkAll parts + 1
  | .iface _ d => uptoBulk d + 1
  | .map entries => uptoBulkEntries entries + 1
  | .held _ => 1
def uptoBulkAll {H : Type} : List (DataW H) → Nat
  | [] => 0
  | d :: r => uptoBulk d + uptoBulkAll r
def uptoBulkEntries {H : Type} : List (Lit × DataW H) → Nat
  | [] => 0
  | x :: r => uptoBulkEntry x + uptoBulkEntries r
def uptoBulkEntry {H : Type} : Lit × DataW H → Nat
  | (.string bytes, d) => bytes.length + uptoBulk d + 1
  | (_, d) => uptoBulk d + 1
 end
def uptoSmall : (H : Type) → List (DataW H) → Bool := fun _ ds => decide (uptoBulkAll ds ≤ 1048576)
def OpenSpec.upto (s : _root_.Go.ChangeSpec) : _root_.Go.OpenSpec := { _root_.Go.OpenSpec.ofChange s with cond := some uptoSmall }

/-- 'madrigallaw21.MusicPlays', WHERE WHAT IT READS IS OF BULK AT MOST 1048576: true; the input reads as it did. -/
def musicPlaysUptoRow : OpenClaim := { program := "ytnhbohcjmdfmiaagreat", sum := "b8fc956250134931cad314fd484f5a734dbbe75a238246dcecb2e88539eb50c2", func := "madrigal/madrigallaw21.MusicPlays", spec := "musicPlays", inPlace := ["math/bits.Add64"], unfollowed := true, recurses := true, named := ["math/bits.divideError", "math/bits.overflowError"], apart := false, narrowed := true }
def MusicPlaysUptoSaid : Prop := musicPlaysUptoRow.holds Tryz.pinned (OpenSpec.upto musicPlaysSpec)

/-- 'madrigallaw21.MusicWrites', WHERE WHAT IT READS IS OF BULK AT MOST 1048576: true; the input reads as it did. -/
def musicWritesUptoRow : OpenClaim := { program := "ytnhbohcjmdfmiaagreat", sum := "b8fc956250134931cad314fd484f5a734dbbe75a238246dcecb2e88539eb50c2", func := "madrigal/madrigallaw21.MusicWrites", spec := "musicWrites", inPlace := ["math/bits.Add64"], unfollowed := true, recurses := true, named := ["math/bits.divideError", "math/bits.overflowError"], apart := false, narrowed := true }
def MusicWritesUptoSaid : Prop := musicWritesUptoRow.holds Tryz.pinned (OpenSpec.upto musicWritesSpec)

/-- 'madrigallaw21.MusicFresh', WHERE WHAT IT READS IS OF BULK AT MOST 1048576: true; the input reads as it did. -/
def musicFreshUptoRow : OpenClaim := { program := "ytnhbohcjmdfmiaagreat", sum := "b8fc956250134931cad314fd484f5a734dbbe75a238246dcecb2e88539eb50c2", func := "madrigal/madrigallaw21.MusicFresh", spec := "musicFresh", inPlace := ["math/bits.Add64"], unfollowed := true, recurses := true, named := ["math/bits.divideError", "math/bits.overflowError"], apart := false, narrowed := true }
def MusicFreshUptoSaid : Prop := musicFreshUptoRow.holds Tryz.pinned (OpenSpec.upto musicFreshSpec)

/-- 'madrigallaw21.MusicJoint', WHERE WHAT IT READS IS OF BULK AT MOST 1048576: true; the input reads as it did. -/
def musicJointUptoRow : OpenClaim := { program := "ytnhbohcjmdfmiaagreat", sum := "b8fc956250134931cad314fd484f5a734dbbe75a238246dcecb2e88539eb50c2", func := "madrigal/madrigallaw21.MusicJoint", spec := "musicJoint", inPlace := ["math/bits.Add64"], unfollowed := true, recurses := true, named := ["math/bits.divideError", "math/bits.overflowError"], apart := false, narrowed := true }
def MusicJointUptoSaid : Prop := musicJointUptoRow.holds Tryz.pinned (OpenSpec.upto musicJointSpec)

/-- 'madrigallaw21.MusicTells', WHERE WHAT IT READS IS OF BULK AT MOST 1048576: true; the input reads as it did. -/
def musicTellsUptoRow : OpenClaim := { program := "ytnhbohcjmdfmiaagreat", sum := "b8fc956250134931cad314fd484f5a734dbbe75a238246dcecb2e88539eb50c2", func := "madrigal/madrigallaw21.MusicTells", spec := "musicTells", inPlace := ["math/bits.Add64"], unfollowed := true, recurses := true, named := ["math/bits.divideError", "math/bits.overflowError"], apart := false, narrowed := true }
def MusicTellsUptoSaid : Prop := musicTellsUptoRow.holds Tryz.pinned (OpenSpec.upto musicTellsSpec)

/-- 'madrigallaw21.MusicCopies', WHERE WHAT IT READS IS OF BULK AT MOST 1048576: true; the input reads as it did. -/
def musicCopiesUptoRow : OpenClaim := { program := "ytnhbohcjmdfmiaagreat", sum := "b8fc956250134931cad314fd484f5a734dbbe75a238246dcecb2e88539eb50c2", func := "madrigal/madrigallaw21.MusicCopies", spec := "musicCopies", inPlace := ["math/bits.Add64"], unfollowed := true, recurses := true, named := ["math/bits.divideError", "math/bits.overflowError"], apart := false, narrowed := true }
def MusicCopiesUptoSaid : Prop := musicCopiesUptoRow.holds Tryz.pinned (OpenSpec.upto musicCopiesSpec)

end Rows
end Go.Proofs.YtnhbohcjmdfmiaaGreat
