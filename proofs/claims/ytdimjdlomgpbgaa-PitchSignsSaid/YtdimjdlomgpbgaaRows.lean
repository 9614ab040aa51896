/-
  No cell of these rows narrows 'for every input' (looked for: loops, veiled, ifaces, maps, wideKeys, modest, calm, conditions, laid).
  DERIVED. THE GIVEN ROWS OF THIS SEAT. 11 by the template 'for every input the law returns true; each argument reads behind the call as it read before'; 0 by the template 'total and deterministic' (their statements: YtdimjdlomgpbgaaTotals.lean).
  GIVEN WITH THE SEED: the statements are not yours to turn. If you find one false, say at which input.
  Laid BY PROGRAM, IN A SANDBOX (cutbox-rows.mjs): the forced cells as the released guide's own fill.sh prints them over the translation bd566860eb2093ce… (all of the seat's roots in one cut). By AI agents, Wed Nov 11 2026. No macro, syntax, notation, axiom, sorry.
-/
import Derived.Test.YtdimjdlomgpbgaaChecked
import GoSem.Claim
import GoSem.ClaimJoined
import GoSem.ClaimMapViews
import Derived.JoinedTies
import Derived.KernelRfl
namespace Go.Proofs.Ytdimjdlomgpbgaa
/- THE CELL 'sum', in the pinned program and in every row, IS THE sha256 OF THE DUMP (.gsa) THAT YtdimjdlomgpbgaaProg.lean LOADS. Nothing in Lean hashes anything: it is a label: what it is worth is what the hold of that sum in a sandbox is worth. -/
noncomputable def Try.pinned : Pinned := { name := "ytdimjdlomgpbgaa", sum := "bd566860eb2093ce5b681692070f4db483030657c29af74f4edc50bb59766b1d", checked := Try.checked }
namespace Rows
def none {H : Type} : Left H := { results := [], args := [] }

/-- 'madrigallaw18.AllocKnown': WHATEVER THE INPUT: true; the input reads as it did. -/
def allocKnownSpec : ChangeSpec := { name := "allocKnown", fn := fun _ => fun
  | [] => { results := [.lit (.bool true)], args := [] }
  | _ => none }
def allocKnownRow : OpenClaim := { program := "ytdimjdlomgpbgaa", sum := "bd566860eb2093ce5b681692070f4db483030657c29af74f4edc50bb59766b1d", func := "madrigal/madrigallaw18.AllocKnown", spec := "allocKnown", unfollowed := true, recurses := true, apart := false }
def AllocKnownSaid : Prop := allocKnownRow.holds Try.pinned (OpenSpec.ofChange allocKnownSpec)

/-- ITS FALSE NEIGHBOUR: 'it returns false'. Refute it at one input. -/
def allocKnownWrong : ChangeSpec := { name := "allocKnown", fn := fun _ => fun
  | [] => { results := [.lit (.bool false)], args := [] }
  | _ => none }
def AllocKnownWrongFalsely : Prop := allocKnownRow.holds Try.pinned (OpenSpec.ofChange allocKnownWrong)

/-- 'madrigallaw18.AllocShares': WHATEVER THE INPUT: true; the input reads as it did. -/
def allocSharesSpec : ChangeSpec := { name := "allocShares", fn := fun _ => fun
  | [d1, d2, d3] => { results := [.lit (.bool true)], args := [d1, d2, d3] }
  | _ => none }
def allocSharesRow : OpenClaim := { program := "ytdimjdlomgpbgaa", sum := "bd566860eb2093ce5b681692070f4db483030657c29af74f4edc50bb59766b1d", func := "madrigal/madrigallaw18.AllocShares", spec := "allocShares", unfollowed := true, recurses := true, apart := false }
def AllocSharesSaid : Prop := allocSharesRow.holds Try.pinned (OpenSpec.ofChange allocSharesSpec)

/-- ITS FALSE NEIGHBOUR: 'it returns false'. Refute it at one input. -/
def allocSharesWrong : ChangeSpec := { name := "allocShares", fn := fun _ => fun
  | [d1, d2, d3] => { results := [.lit (.bool false)], args := [d1, d2, d3] }
  | _ => none }
def AllocSharesWrongFalsely : Prop := allocSharesRow.holds Try.pinned (OpenSpec.ofChange allocSharesWrong)

/-- 'madrigallaw18.AllocSays': WHATEVER THE INPUT: true; the input reads as it did. -/
def allocSaysSpec : ChangeSpec := { name := "allocSays", fn := fun _ => fun
  | [d1, d2] => { results := [.lit (.bool true)], args := [d1, d2] }
  | _ => none }
def allocSaysRow : OpenClaim := { program := "ytdimjdlomgpbgaa", sum := "bd566860eb2093ce5b681692070f4db483030657c29af74f4edc50bb59766b1d", func := "madrigal/madrigallaw18.AllocSays", spec := "allocSays", unfollowed := true, recurses := true, apart := false }
def AllocSaysSaid : Prop := allocSaysRow.holds Try.pinned (OpenSpec.ofChange allocSaysSpec)

/-- ITS FALSE NEIGHBOUR: 'it returns false'. Refute it at one input. -/
def allocSaysWrong : ChangeSpec := { name := "allocSays", fn := fun _ => fun
  | [d1, d2] => { results := [.lit (.bool false)], args := [d1, d2] }
  | _ => none }
def AllocSaysWrongFalsely : Prop := allocSaysRow.holds Try.pinned (OpenSpec.ofChange allocSaysWrong)

/-- 'madrigallaw18.AllocHolds': WHATEVER THE INPUT: true; the input reads as it did. -/
def allocHoldsSpec : ChangeSpec := { name := "allocHolds", fn := fun _ => fun
  | [d1, d2] => { results := [.lit (.bool true)], args := [d1, d2] }
  | _ => none }
def allocHoldsRow : OpenClaim := { program := "ytdimjdlomgpbgaa", sum := "bd566860eb2093ce5b681692070f4db483030657c29af74f4edc50bb59766b1d", func := "madrigal/madrigallaw18.AllocHolds", spec := "allocHolds", unfollowed := true, recurses := true, apart := false }
def AllocHoldsSaid : Prop := allocHoldsRow.holds Try.pinned (OpenSpec.ofChange allocHoldsSpec)

/-- ITS FALSE NEIGHBOUR: 'it returns false'. Refute it at one input. -/
def allocHoldsWrong : ChangeSpec := { name := "allocHolds", fn := fun _ => fun
  | [d1, d2] => { results := [.lit (.bool false)], args := [d1, d2] }
  | _ => none }
def AllocHoldsWrongFalsely : Prop := allocHoldsRow.holds Try.pinned (OpenSpec.ofChange allocHoldsWrong)

/-- 'madrigallaw18.AllocLouder': WHATEVER THE INPUT: true; the input reads as it did. -/
def allocLouderSpec : ChangeSpec := { name := "allocLouder", fn := fun _ => fun
  | [d1, d2, d3, d4, d5] => { results := [.lit (.bool true)], args := [d1, d2, d3, d4, d5] }
  | _ => none }
def allocLouderRow : OpenClaim := { program := "ytdimjdlomgpbgaa", sum := "bd566860eb2093ce5b681692070f4db483030657c29af74f4edc50bb59766b1d", func := "madrigal/madrigallaw18.AllocLouder", spec := "allocLouder", unfollowed := true, recurses := true, apart := false }
def AllocLouderSaid : Prop := allocLouderRow.holds Try.pinned (OpenSpec.ofChange allocLouderSpec)

/-- ITS FALSE NEIGHBOUR: 'it returns false'. Refute it at one input. -/
def allocLouderWrong : ChangeSpec := { name := "allocLouder", fn := fun _ => fun
  | [d1, d2, d3, d4, d5] => { results := [.lit (.bool false)], args := [d1, d2, d3, d4, d5] }
  | _ => none }
def AllocLouderWrongFalsely : Prop := allocLouderRow.holds Try.pinned (OpenSpec.ofChange allocLouderWrong)

/-- 'madrigallaw18.AllocNothing': WHATEVER THE INPUT: true; the input reads as it did. -/
def allocNothingSpec : ChangeSpec := { name := "allocNothing", fn := fun _ => fun
  | [d1, d2, d3] => { results := [.lit (.bool true)], args := [d1, d2, d3] }
  | _ => none }
def allocNothingRow : OpenClaim := { program := "ytdimjdlomgpbgaa", sum := "bd566860eb2093ce5b681692070f4db483030657c29af74f4edc50bb59766b1d", func := "madrigal/madrigallaw18.AllocNothing", spec := "allocNothing", unfollowed := true, recurses := true, apart := false }
def AllocNothingSaid : Prop := allocNothingRow.holds Try.pinned (OpenSpec.ofChange allocNothingSpec)

/-- ITS FALSE NEIGHBOUR: 'it returns false'. Refute it at one input. -/
def allocNothingWrong : ChangeSpec := { name := "allocNothing", fn := fun _ => fun
  | [d1, d2, d3] => { results := [.lit (.bool false)], args := [d1, d2, d3] }
  | _ => none }
def AllocNothingWrongFalsely : Prop := allocNothingRow.holds Try.pinned (OpenSpec.ofChange allocNothingWrong)

/-- 'madrigallaw11.PitchKnown': WHATEVER THE INPUT: true; the input reads as it did. -/
def pitchKnownSpec : ChangeSpec := { name := "pitchKnown", fn := fun _ => fun
  | [] => { results := [.lit (.bool true)], args := [] }
  | _ => none }
def pitchKnownRow : OpenClaim := { program := "ytdimjdlomgpbgaa", sum := "bd566860eb2093ce5b681692070f4db483030657c29af74f4edc50bb59766b1d", func := "madrigal/madrigallaw11.PitchKnown", spec := "pitchKnown", unfollowed := true, recurses := true, apart := false }
def PitchKnownSaid : Prop := pitchKnownRow.holds Try.pinned (OpenSpec.ofChange pitchKnownSpec)

/-- ITS FALSE NEIGHBOUR: 'it returns false'. Refute it at one input. -/
def pitchKnownWrong : ChangeSpec := { name := "pitchKnown", fn := fun _ => fun
  | [] => { results := [.lit (.bool false)], args := [] }
  | _ => none }
def PitchKnownWrongFalsely : Prop := pitchKnownRow.holds Try.pinned (OpenSpec.ofChange pitchKnownWrong)

/-- 'madrigallaw11.PitchSays': WHATEVER THE INPUT: true; the input reads as it did. -/
def pitchSaysSpec : ChangeSpec := { name := "pitchSays", fn := fun _ => fun
  | [d1, d2, d3, d4, d5] => { results := [.lit (.bool true)], args := [d1, d2, d3, d4, d5] }
  | _ => none }
def pitchSaysRow : OpenClaim := { program := "ytdimjdlomgpbgaa", sum := "bd566860eb2093ce5b681692070f4db483030657c29af74f4edc50bb59766b1d", func := "madrigal/madrigallaw11.PitchSays", spec := "pitchSays", unfollowed := true, recurses := true, apart := false }
def PitchSaysSaid : Prop := pitchSaysRow.holds Try.pinned (OpenSpec.ofChange pitchSaysSpec)

/-- ITS FALSE NEIGHBOUR: 'it returns false'. Refute it at one input. -/
def pitchSaysWrong : ChangeSpec := { name := "pitchSays", fn := fun _ => fun
  | [d1, d2, d3, d4, d5] => { results := [.lit (.bool false)], args := [d1, d2, d3, d4, d5] }
  | _ => none }
def PitchSaysWrongFalsely : Prop := pitchSaysRow.holds Try.pinned (OpenSpec.ofChange pitchSaysWrong)

/-- 'madrigallaw11.PitchFinds': WHATEVER THE INPUT: true; the input reads as it did. -/
def pitchFindsSpec : ChangeSpec := { name := "pitchFinds", fn := fun _ => fun
  | [d1, d2, d3] => { results := [.lit (.bool true)], args := [d1, d2, d3] }
  | _ => none }
def pitchFindsRow : OpenClaim := { program := "ytdimjdlomgpbgaa", sum := "bd566860eb2093ce5b681692070f4db483030657c29af74f4edc50bb59766b1d", func := "madrigal/madrigallaw11.PitchFinds", spec := "pitchFinds", unfollowed := true, recurses := true, apart := false }
def PitchFindsSaid : Prop := pitchFindsRow.holds Try.pinned (OpenSpec.ofChange pitchFindsSpec)

/-- ITS FALSE NEIGHBOUR: 'it returns false'. Refute it at one input. -/
def pitchFindsWrong : ChangeSpec := { name := "pitchFinds", fn := fun _ => fun
  | [d1, d2, d3] => { results := [.lit (.bool false)], args := [d1, d2, d3] }
  | _ => none }
def PitchFindsWrongFalsely : Prop := pitchFindsRow.holds Try.pinned (OpenSpec.ofChange pitchFindsWrong)

/-- 'madrigallaw11.PitchSigns': WHATEVER THE INPUT: true; the input reads as it did. -/
def pitchSignsSpec : ChangeSpec := { name := "pitchSigns", fn := fun _ => fun
  | [d1, d2] => { results := [.lit (.bool true)], args := [d1, d2] }
  | _ => none }
def pitchSignsRow : OpenClaim := { program := "ytdimjdlomgpbgaa", sum := "bd566860eb2093ce5b681692070f4db483030657c29af74f4edc50bb59766b1d", func := "madrigal/madrigallaw11.PitchSigns", spec := "pitchSigns", unfollowed := true, recurses := true, apart := false }
def PitchSignsSaid : Prop := pitchSignsRow.holds Try.pinned (OpenSpec.ofChange pitchSignsSpec)

/-- ITS FALSE NEIGHBOUR: 'it returns false'. Refute it at one input. -/
def pitchSignsWrong : ChangeSpec := { name := "pitchSigns", fn := fun _ => fun
  | [d1, d2] => { results := [.lit (.bool false)], args := [d1, d2] }
  | _ => none }
def PitchSignsWrongFalsely : Prop := pitchSignsRow.holds Try.pinned (OpenSpec.ofChange pitchSignsWrong)

/-- 'madrigallaw11.PitchAll': WHATEVER THE INPUT: true; the input reads as it did. -/
def pitchAllSpec : ChangeSpec := { name := "pitchAll", fn := fun _ => fun
  | [d1, d2, d3] => { results := [.lit (.bool true)], args := [d1, d2, d3] }
  | _ => none }
def pitchAllRow : OpenClaim := { program := "ytdimjdlomgpbgaa", sum := "bd566860eb2093ce5b681692070f4db483030657c29af74f4edc50bb59766b1d", func := "madrigal/madrigallaw11.PitchAll", spec := "pitchAll", unfollowed := true, recurses := true, apart := false }
def PitchAllSaid : Prop := pitchAllRow.holds Try.pinned (OpenSpec.ofChange pitchAllSpec)

/-- ITS FALSE NEIGHBOUR: 'it returns false'. Refute it at one input. -/
def pitchAllWrong : ChangeSpec := { name := "pitchAll", fn := fun _ => fun
  | [d1, d2, d3] => { results := [.lit (.bool false)], args := [d1, d2, d3] }
  | _ => none }
def PitchAllWrongFalsely : Prop := pitchAllRow.holds Try.pinned (OpenSpec.ofChange pitchAllWrong)

/- THE SECOND FORM. 'bulk': how many values and letters a reading holds, each counted each time it is reached (what is shared counts as often as it is met; a slice's spare places count too). A statement '..UptoSaid' is the law's where the arguments, and the package variables that the reading takes, are together of bulk at most 1048576: NARROWER than '..Said'. Prove '..Said' where nothing that the law and all that it calls make is longer than what came in: it says more and counts as full. Else prove '..UptoSaid'. A law counts once. -/
mutual
def uptoBulk {H : Type} : DataW H → Nat
  | .lit (.string bytes) => bytes.length + 1
  | .lit _ => 1
  | .nil => 1
  | .ptr d => uptoBulk d + 1
  | .slice elems spare => uptoBulkAll elems + uptoBulkAll spare + 1
  | .agg parts => uptoBulkAll parts + 1
  | .iface _ d => uptoBulk d + 1
  | .map entries => uptoBulkEntries entries + 1
  | .held _ => 1
def uptoBulkAll {H : Type} : List (DataW H) → Nat
  | [] => 0
  | d :: r => uptoBulk d + uptoBulkAll r
def uptoBulkEntries {H : Type} : List (Lit × DataW H) → Nat
  | [] => 0
  | x :: r => uptoBulkEntry x + uptoBulkEntries r
def uptoBulkEntry {H : Type} : Lit × DataW H → Nat
  | (.string bytes, d) => bytes.length + uptoBulk d + 1
  | (_, d) => uptoBulk d + 1
 end
def uptoSmall : (H : Type) → List (DataW H) → Bool := fun _ ds => decide (uptoBulkAll ds ≤ 1048576)
def OpenSpec.upto (s : _root_.Go.ChangeSpec) : _root_.Go.OpenSpec := { _root_.Go.OpenSpec.ofChange s with cond := some uptoSmall }

/-- 'madrigallaw18.AllocKnown', WHERE WHAT IT READS IS OF BULK AT MOST 1048576: true; the input reads as it did. -/
def allocKnownUptoRow : OpenClaim := { program := "ytdimjdlomgpbgaa", sum := "bd566860eb2093ce5b681692070f4db483030657c29af74f4edc50bb59766b1d", func := "madrigal/madrigallaw18.AllocKnown", spec := "allocKnown", unfollowed := true, recurses := true, apart := false, narrowed := true }
def AllocKnownUptoSaid : Prop := allocKnownUptoRow.holds Try.pinned (OpenSpec.upto allocKnownSpec)

/-- 'madrigallaw18.AllocShares', WHERE WHAT IT READS IS OF BULK AT MOST 1048576: true; the input reads as it did. -/
def allocSharesUptoRow : OpenClaim := { program := "ytdimjdlomgpbgaa", sum := "bd566860eb2093ce5b681692070f4db483030657c29af74f4edc50bb59766b1d", func := "madrigal/madrigallaw18.AllocShares", spec := "allocShares", unfollowed := true, recurses := true, apart := false, narrowed := true }
def AllocSharesUptoSaid : Prop := allocSharesUptoRow.holds Try.pinned (OpenSpec.upto allocSharesSpec)

/-- 'madrigallaw18.AllocSays', WHERE WHAT IT READS IS OF BULK AT MOST 1048576: true; the input reads as it did. -/
def allocSaysUptoRow : OpenClaim := { program := "ytdimjdlomgpbgaa", sum := "bd566860eb2093ce5b681692070f4db483030657c29af74f4edc50bb59766b1d", func := "madrigal/madrigallaw18.AllocSays", spec := "allocSays", unfollowed := true, recurses := true, apart := false, narrowed := true }
def AllocSaysUptoSaid : Prop := allocSaysUptoRow.holds Try.pinned (OpenSpec.upto allocSaysSpec)

/-- 'madrigallaw18.AllocHolds', WHERE WHAT IT READS IS OF BULK AT MOST 1048576: true; the input reads as it did. -/
def allocHoldsUptoRow : OpenClaim := { program := "ytdimjdlomgpbgaa", sum := "bd566860eb2093ce5b681692070f4db483030657c29af74f4edc50bb59766b1d", func := "madrigal/madrigallaw18.AllocHolds", spec := "allocHolds", unfollowed := true, recurses := true, apart := false, narrowed := true }
def AllocHoldsUptoSaid : Prop := allocHoldsUptoRow.holds Try.pinned (OpenSpec.upto allocHoldsSpec)

/-- 'madrigallaw18.AllocLouder', WHERE WHAT IT READS IS OF BULK AT MOST 1048576: true; the input reads as it did. -/
def allocLouderUptoRow : OpenClaim := { program := "ytdimjdlomgpbgaa", sum := "bd566860eb2093ce5b681692070f4db483030657c29af74f4edc50bb59766b1d", func := "madrigal/madrigallaw18.AllocLouder", spec := "allocLouder", unfollowed := true, recurses := true, apart := false, narrowed := true }
def AllocLouderUptoSaid : Prop := allocLouderUptoRow.holds Try.pinned (OpenSpec.upto allocLouderSpec)

/-- 'madrigallaw18.AllocNothing', WHERE WHAT IT READS IS OF BULK AT MOST 1048576: true; the input reads as it did. -/
def allocNothingUptoRow : OpenClaim := { program := "ytdimjdlomgpbgaa", sum := "bd566860eb2093ce5b681692070f4db483030657c29af74f4edc50bb59766b1d", func := "madrigal/madrigallaw18.AllocNothing", spec := "allocNothing", unfollowed := true, recurses := true, apart := false, narrowed := true }
def AllocNothingUptoSaid : Prop := allocNothingUptoRow.holds Try.pinned (OpenSpec.upto allocNothingSpec)

/-- 'madrigallaw11.PitchKnown', WHERE WHAT IT READS IS OF BULK AT MOST 1048576: true; the input reads as it did. -/
def pitchKnownUptoRow : OpenClaim := { program := "ytdimjdlomgpbgaa", sum := "bd566860eb2093ce5b681692070f4db483030657c29af74f4edc50bb59766b1d", func := "madrigal/madrigallaw11.PitchKnown", spec := "pitchKnown", unfollowed := true, recurses := true, apart := false, narrowed := true }
def PitchKnownUptoSaid : Prop := pitchKnownUptoRow.holds Try.pinned (OpenSpec.upto pitchKnownSpec)

/-- 'madrigallaw11.PitchSays', WHERE WHAT IT READS IS OF BULK AT MOST 1048576: true; the input reads as it did. -/
def pitchSaysUptoRow : OpenClaim := { program := "ytdimjdlomgpbgaa", sum := "bd566860eb2093ce5b681692070f4db483030657c29af74f4edc50bb59766b1d", func := "madrigal/madrigallaw11.PitchSays", spec := "pitchSays", unfollowed := true, recurses := true, apart := false, narrowed := true }
def PitchSaysUptoSaid : Prop := pitchSaysUptoRow.holds Try.pinned (OpenSpec.upto pitchSaysSpec)

/-- 'madrigallaw11.PitchFinds', WHERE WHAT IT READS IS OF BULK AT MOST 1048576: true; the input reads as it did. -/
def pitchFindsUptoRow : OpenClaim := { program := "ytdimjdlomgpbgaa", sum := "bd566860eb2093ce5b681692070f4db483030657c29af74f4edc50bb59766b1d", func := "madrigal/madrigallaw11.PitchFinds", spec := "pitchFinds", unfollowed := true, recurses := true, apart := false, narrowed := true }
def PitchFindsUptoSaid : Prop := pitchFindsUptoRow.holds Try.pinned (OpenSpec.upto pitchFindsSpec)

/-- 'madrigallaw11.PitchSigns', WHERE WHAT IT READS IS OF BULK AT MOST 1048576: true; the input reads as it did. -/
def pitchSignsUptoRow : OpenClaim := { program := "ytdimjdlomgpbgaa", sum := "bd566860eb2093ce5b681692070f4db483030657c29af74f4edc50bb59766b1d", func := "madrigal/madrigallaw11.PitchSigns", spec := "pitchSigns", unfollowed := true, recurses := true, apart := false, narrowed := true }
def PitchSignsUptoSaid : Prop := pitchSignsUptoRow.holds Try.pinned (OpenSpec.upto pitchSignsSpec)

/-- 'madrigallaw11.PitchAll', WHERE WHAT IT READS IS OF BULK AT MOST 1048576: true; the input reads as it did. -/
def pitchAllUptoRow : OpenClaim := { program := "ytdimjdlomgpbgaa", sum := "bd566860eb2093ce5b681692070f4db483030657c29af74f4edc50bb59766b1d", func := "madrigal/madrigallaw11.PitchAll", spec := "pitchAll", unfollowed := true, recurses := true, apart := false, narrowed := true }
def PitchAllUptoSaid : Prop := pitchAllUptoRow.holds Try.pinned (OpenSpec.upto pitchAllSpec)

end Rows
end Go.Proofs.Ytdimjdlomgpbgaa
