/-
  No cell of these rows narrows 'for every input' (looked for: loops, veiled, ifaces, maps, wideKeys, modest, calm, conditions, laid).
  DERIVED. THE GIVEN ROWS OF THIS SEAT. 5 by the template 'for every input the law returns true; each argument reads behind the call as it read before'; 0 by the template 'total and deterministic' (their statements: YtblaikeffnpagaaTotals.lean).
  GIVEN WITH THE SEED: the statements are not yours to turn. If you find one false, say at which input.
  Laid BY PROGRAM, IN A SANDBOX (cutbox-rows.mjs): the forced cells as the released guide's own fill.sh prints them over the translation 8607f82bff0c564d… (all of the seat's roots in one cut). By AI agents, Wed Nov 11 2026. No macro, syntax, notation, axiom, sorry.
-/
import Derived.Test.YtblaikeffnpagaaChecked
import GoSem.Claim
import GoSem.ClaimJoined
import GoSem.ClaimMapViews
import Derived.JoinedTies
import Derived.KernelRfl
namespace Go.Proofs.Ytblaikeffnpagaa
/- THE CELL 'sum', in the pinned program and in every row, IS THE sha256 OF THE DUMP (.gsa) THAT YtblaikeffnpagaaProg.lean LOADS. Nothing in Lean hashes anything: it is a label: what it is worth is what the hold of that sum in a sandbox is worth. -/
noncomputable def Try.pinned : Pinned := { name := "ytblaikeffnpagaa", sum := "8607f82bff0c564d4839075150f82505757b1a02c0b1a87395d851a1aceb3692", checked := Try.checked }
namespace Rows
def none {H : Type} : Left H := { results := [], args := [] }

/-- 'madrigallaw23.PlcKnown': WHATEVER THE INPUT: true; the input reads as it did. -/
def plcKnownSpec : ChangeSpec := { name := "plcKnown", fn := fun _ => fun
  | [] => { results := [.lit (.bool true)], args := [] }
  | _ => none }
def plcKnownRow : OpenClaim := { program := "ytblaikeffnpagaa", sum := "8607f82bff0c564d4839075150f82505757b1a02c0b1a87395d851a1aceb3692", func := "madrigal/madrigallaw23.PlcKnown", spec := "plcKnown", unfollowed := true, recurses := true, apart := false }
def PlcKnownSaid : Prop := plcKnownRow.holds Try.pinned (OpenSpec.ofChange plcKnownSpec)

/-- ITS FALSE NEIGHBOUR: 'it returns false'. Refute it at one input. -/
def plcKnownWrong : ChangeSpec := { name := "plcKnown", fn := fun _ => fun
  | [] => { results := [.lit (.bool false)], args := [] }
  | _ => none }
def PlcKnownWrongFalsely : Prop := plcKnownRow.holds Try.pinned (OpenSpec.ofChange plcKnownWrong)

/-- 'madrigallaw23.PlcPlays': WHATEVER THE INPUT: true; the input reads as it did. -/
def plcPlaysSpec : ChangeSpec := { name := "plcPlays", fn := fun _ => fun
  | [d1, d2] => { results := [.lit (.bool true)], args := [d1, d2] }
  | _ => none }
def plcPlaysRow : OpenClaim := { program := "ytblaikeffnpagaa", sum := "8607f82bff0c564d4839075150f82505757b1a02c0b1a87395d851a1aceb3692", func := "madrigal/madrigallaw23.PlcPlays", spec := "plcPlays", unfollowed := true, recurses := true, apart := false }
def PlcPlaysSaid : Prop := plcPlaysRow.holds Try.pinned (OpenSpec.ofChange plcPlaysSpec)

/-- ITS FALSE NEIGHBOUR: 'it returns false'. Refute it at one input. -/
def plcPlaysWrong : ChangeSpec := { name := "plcPlays", fn := fun _ => fun
  | [d1, d2] => { results := [.lit (.bool false)], args := [d1, d2] }
  | _ => none }
def PlcPlaysWrongFalsely : Prop := plcPlaysRow.holds Try.pinned (OpenSpec.ofChange plcPlaysWrong)

/-- 'madrigallaw23.PlcFades': WHATEVER THE INPUT: true; the input reads as it did. -/
def plcFadesSpec : ChangeSpec := { name := "plcFades", fn := fun _ => fun
  | [d1, d2, d3, d4] => { results := [.lit (.bool true)], args := [d1, d2, d3, d4] }
  | _ => none }
def plcFadesRow : OpenClaim := { program := "ytblaikeffnpagaa", sum := "8607f82bff0c564d4839075150f82505757b1a02c0b1a87395d851a1aceb3692", func := "madrigal/madrigallaw23.PlcFades", spec := "plcFades", unfollowed := true, recurses := true, apart := false }
def PlcFadesSaid : Prop := plcFadesRow.holds Try.pinned (OpenSpec.ofChange plcFadesSpec)

/-- ITS FALSE NEIGHBOUR: 'it returns false'. Refute it at one input. -/
def plcFadesWrong : ChangeSpec := { name := "plcFades", fn := fun _ => fun
  | [d1, d2, d3, d4] => { results := [.lit (.bool false)], args := [d1, d2, d3, d4] }
  | _ => none }
def PlcFadesWrongFalsely : Prop := plcFadesRow.holds Try.pinned (OpenSpec.ofChange plcFadesWrong)

/-- 'madrigallaw23.PlcSofter': WHATEVER THE INPUT: true; the input reads as it did. -/
def plcSofterSpec : ChangeSpec := { name := "plcSofter", fn := fun _ => fun
  | [d1, d2, d3] => { results := [.lit (.bool true)], args := [d1, d2, d3] }
  | _ => none }
def plcSofterRow : OpenClaim := { program := "ytblaikeffnpagaa", sum := "8607f82bff0c564d4839075150f82505757b1a02c0b1a87395d851a1aceb3692", func := "madrigal/madrigallaw23.PlcSofter", spec := "plcSofter", unfollowed := true, recurses := true, apart := false }
def PlcSofterSaid : Prop := plcSofterRow.holds Try.pinned (OpenSpec.ofChange plcSofterSpec)

/-- ITS FALSE NEIGHBOUR: 'it returns false'. Refute it at one input. -/
def plcSofterWrong : ChangeSpec := { name := "plcSofter", fn := fun _ => fun
  | [d1, d2, d3] => { results := [.lit (.bool false)], args := [d1, d2, d3] }
  | _ => none }
def PlcSofterWrongFalsely : Prop := plcSofterRow.holds Try.pinned (OpenSpec.ofChange plcSofterWrong)

/-- 'madrigallaw23.PlcRepeats': WHATEVER THE INPUT: true; the input reads as it did. -/
def plcRepeatsSpec : ChangeSpec := { name := "plcRepeats", fn := fun _ => fun
  | [d1, d2] => { results := [.lit (.bool true)], args := [d1, d2] }
  | _ => none }
def plcRepeatsRow : OpenClaim := { program := "ytblaikeffnpagaa", sum := "8607f82bff0c564d4839075150f82505757b1a02c0b1a87395d851a1aceb3692", func := "madrigal/madrigallaw23.PlcRepeats", spec := "plcRepeats", unfollowed := true, recurses := true, apart := false }
def PlcRepeatsSaid : Prop := plcRepeatsRow.holds Try.pinned (OpenSpec.ofChange plcRepeatsSpec)

/-- ITS FALSE NEIGHBOUR: 'it returns false'. Refute it at one input. -/
def plcRepeatsWrong : ChangeSpec := { name := "plcRepeats", fn := fun _ => fun
  | [d1, d2] => { results := [.lit (.bool false)], args := [d1, d2] }
  | _ => none }
def PlcRepeatsWrongFalsely : Prop := plcRepeatsRow.holds Try.pinned (OpenSpec.ofChange plcRepeatsWrong)

/- THE SECOND FORM. 'bulk': how many values and letters a reading holds, each counted each time it is reached (what is shared counts as often as it is met; a slice's spare places count too). A statement '..UptoSaid' is the law's where the arguments, and the package variables that the reading takes, are together of bulk at most 1048576: NARROWER than '..Said'. Prove '..Said' where nothing that the law and all that it calls make is longer than what came in: it says more and counts as full. Else prove '..UptoSaid'. A law counts once. -/
mutual
def uptoBulk {H : Type} : DataW H → Nat
  | .lit (.string bytes) => bytes.length + 1
  | .lit _ => 1
  | .nil => 1
  | .ptr d => uptoBulk d + 1
  | .slice elems spare => uptoBulkAll elems + uptoBulkAll spare + 1
  | .agg parts => uptoBulkAll parts + 1
  | .iface _ d => uptoBulk d + 1
  | .map entries => uptoBulkEntries entries + 1
  | .held _ => 1
def uptoBulkAll {H : Type} : List (DataW H) → Nat
  | [] => 0
  | d :: r => uptoBulk d + uptoBulkAll r
def uptoBulkEntries {H : Type} : List (Lit × DataW H) → Nat
  | [] => 0
  | x :: r => uptoBulkEntry x + uptoBulkEntries r
def uptoBulkEntry {H : Type} : Lit × DataW H → Nat
  | (.string bytes, d) => bytes.length + uptoBulk d + 1
  | (_, d) => uptoBulk d + 1
 end
def uptoSmall : (H : Type) → List (DataW H) → Bool := fun _ ds => decide (uptoBulkAll ds ≤ 1048576)
def OpenSpec.upto (s : _root_.Go.ChangeSpec) : _root_.Go.OpenSpec := { _root_.Go.OpenSpec.ofChange s with cond := some uptoSmall }

/-- 'madrigallaw23.PlcKnown', WHERE WHAT IT READS IS OF BULK AT MOST 1048576: true; the input reads as it did. -/
def plcKnownUptoRow : OpenClaim := { program := "ytblaikeffnpagaa", sum := "8607f82bff0c564d4839075150f82505757b1a02c0b1a87395d851a1aceb3692", func := "madrigal/madrigallaw23.PlcKnown", spec := "plcKnown", unfollowed := true, recurses := true, apart := false, narrowed := true }
def PlcKnownUptoSaid : Prop := plcKnownUptoRow.holds Try.pinned (OpenSpec.upto plcKnownSpec)

/-- 'madrigallaw23.PlcPlays', WHERE WHAT IT READS IS OF BULK AT MOST 1048576: true; the input reads as it did. -/
def plcPlaysUptoRow : OpenClaim := { program := "ytblaikeffnpagaa", sum := "8607f82bff0c564d4839075150f82505757b1a02c0b1a87395d851a1aceb3692", func := "madrigal/madrigallaw23.PlcPlays", spec := "plcPlays", unfollowed := true, recurses := true, apart := false, narrowed := true }
def PlcPlaysUptoSaid : Prop := plcPlaysUptoRow.holds Try.pinned (OpenSpec.upto plcPlaysSpec)

/-- 'madrigallaw23.PlcFades', WHERE WHAT IT READS IS OF BULK AT MOST 1048576: true; the input reads as it did. -/
def plcFadesUptoRow : OpenClaim := { program := "ytblaikeffnpagaa", sum := "8607f82bff0c564d4839075150f82505757b1a02c0b1a87395d851a1aceb3692", func := "madrigal/madrigallaw23.PlcFades", spec := "plcFades", unfollowed := true, recurses := true, apart := false, narrowed := true }
def PlcFadesUptoSaid : Prop := plcFadesUptoRow.holds Try.pinned (OpenSpec.upto plcFadesSpec)

/-- 'madrigallaw23.PlcSofter', WHERE WHAT IT READS IS OF BULK AT MOST 1048576: true; the input reads as it did. -/
def plcSofterUptoRow : OpenClaim := { program := "ytblaikeffnpagaa", sum := "8607f82bff0c564d4839075150f82505757b1a02c0b1a87395d851a1aceb3692", func := "madrigal/madrigallaw23.PlcSofter", spec := "plcSofter", unfollowed := true, recurses := true, apart := false, narrowed := true }
def PlcSofterUptoSaid : Prop := plcSofterUptoRow.holds Try.pinned (OpenSpec.upto plcSofterSpec)

/-- 'madrigallaw23.PlcRepeats', WHERE WHAT IT READS IS OF BULK AT MOST 1048576: true; the input reads as it did. -/
def plcRepeatsUptoRow : OpenClaim := { program := "ytblaikeffnpagaa", sum := "8607f82bff0c564d4839075150f82505757b1a02c0b1a87395d851a1aceb3692", func := "madrigal/madrigallaw23.PlcRepeats", spec := "plcRepeats", unfollowed := true, recurses := true, apart := false, narrowed := true }
def PlcRepeatsUptoSaid : Prop := plcRepeatsUptoRow.holds Try.pinned (OpenSpec.upto plcRepeatsSpec)

end Rows
end Go.Proofs.Ytblaikeffnpagaa
