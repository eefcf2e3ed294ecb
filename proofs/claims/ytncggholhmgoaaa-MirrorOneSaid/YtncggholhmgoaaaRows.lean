/-
  No cell of these rows narrows 'for every input' (looked for: loops, veiled, ifaces, maps, wideKeys, modest, calm, conditions, laid).
  DERIVED. THE GIVEN ROWS OF THIS SEAT. 13 by the template 'for every input the law returns true; each argument reads behind the call as it read before'; 0 by the template 'total and deterministic' (their statements: YtncggholhmgoaaaTotals.lean).
  GIVEN WITH THE SEED: the statements are not yours to turn. If you find one false, say at which input.
  Laid BY PROGRAM, IN A SANDBOX (cutbox-rows.mjs): the forced cells as the released guide's own fill.sh prints them over the translation 6125d03e490a33d7… (all of the seat's roots in one cut). By AI agents, Wed Nov 11 2026. No macro, syntax, notation, axiom, sorry.
-/
import Derived.Test.YtncggholhmgoaaaChecked
import GoSem.Claim
import GoSem.ClaimJoined
import GoSem.ClaimMapViews
import Derived.JoinedTies
import Derived.KernelRfl
namespace Go.Proofs.Ytncggholhmgoaaa
/- THE CELL 'sum', in the pinned program and in every row, IS THE sha256 OF THE DUMP (.gsa) THAT YtncggholhmgoaaaProg.lean LOADS. Nothing in Lean hashes anything: it is a label: what it is worth is what the hold of that sum in a sandbox is worth. -/
noncomputable def Try.pinned : Pinned := { name := "ytncggholhmgoaaa", sum := "6125d03e490a33d7e55e78fda11bfb77c6cf07f358e3e1a367345ca9b1a64022", checked := Try.checked }
namespace Rows
def none {H : Type} : Left H := { results := [], args := [] }

/-- 'stillagelaw20.PlantRounds': WHATEVER THE INPUT: true; the input reads as it did. -/
def plantRoundsSpec : ChangeSpec := { name := "plantRounds", fn := fun _ => fun
  | [d1, d2, d3] => { results := [.lit (.bool true)], args := [d1, d2, d3] }
  | _ => none }
def plantRoundsRow : OpenClaim := { program := "ytncggholhmgoaaa", sum := "6125d03e490a33d7e55e78fda11bfb77c6cf07f358e3e1a367345ca9b1a64022", func := "stillage/stillagelaw20.PlantRounds", spec := "plantRounds", unfollowed := true, recurses := true, plainKeys := false, apart := false }
def PlantRoundsSaid : Prop := plantRoundsRow.holds Try.pinned (OpenSpec.ofChange plantRoundsSpec)

/-- ITS FALSE NEIGHBOUR: 'it returns false'. Refute it at one input. -/
def plantRoundsWrong : ChangeSpec := { name := "plantRounds", fn := fun _ => fun
  | [d1, d2, d3] => { results := [.lit (.bool false)], args := [d1, d2, d3] }
  | _ => none }
def PlantRoundsWrongFalsely : Prop := plantRoundsRow.holds Try.pinned (OpenSpec.ofChange plantRoundsWrong)

/-- 'stillagelaw20.PlantTwice': WHATEVER THE INPUT: true; the input reads as it did. -/
def plantTwiceSpec : ChangeSpec := { name := "plantTwice", fn := fun _ => fun
  | [d1, d2] => { results := [.lit (.bool true)], args := [d1, d2] }
  | _ => none }
def plantTwiceRow : OpenClaim := { program := "ytncggholhmgoaaa", sum := "6125d03e490a33d7e55e78fda11bfb77c6cf07f358e3e1a367345ca9b1a64022", func := "stillage/stillagelaw20.PlantTwice", spec := "plantTwice", unfollowed := true, recurses := true, plainKeys := false, apart := false }
def PlantTwiceSaid : Prop := plantTwiceRow.holds Try.pinned (OpenSpec.ofChange plantTwiceSpec)

/-- ITS FALSE NEIGHBOUR: 'it returns false'. Refute it at one input. -/
def plantTwiceWrong : ChangeSpec := { name := "plantTwice", fn := fun _ => fun
  | [d1, d2] => { results := [.lit (.bool false)], args := [d1, d2] }
  | _ => none }
def PlantTwiceWrongFalsely : Prop := plantTwiceRow.holds Try.pinned (OpenSpec.ofChange plantTwiceWrong)

/-- 'stillagelaw20.PlantFaults': WHATEVER THE INPUT: true; the input reads as it did. -/
def plantFaultsSpec : ChangeSpec := { name := "plantFaults", fn := fun _ => fun
  | [d1, d2, d3] => { results := [.lit (.bool true)], args := [d1, d2, d3] }
  | _ => none }
def plantFaultsRow : OpenClaim := { program := "ytncggholhmgoaaa", sum := "6125d03e490a33d7e55e78fda11bfb77c6cf07f358e3e1a367345ca9b1a64022", func := "stillage/stillagelaw20.PlantFaults", spec := "plantFaults", unfollowed := true, recurses := true, plainKeys := false, apart := false }
def PlantFaultsSaid : Prop := plantFaultsRow.holds Try.pinned (OpenSpec.ofChange plantFaultsSpec)

/-- ITS FALSE NEIGHBOUR: 'it returns false'. Refute it at one input. -/
def plantFaultsWrong : ChangeSpec := { name := "plantFaults", fn := fun _ => fun
  | [d1, d2, d3] => { results := [.lit (.bool false)], args := [d1, d2, d3] }
  | _ => none }
def PlantFaultsWrongFalsely : Prop := plantFaultsRow.holds Try.pinned (OpenSpec.ofChange plantFaultsWrong)

/-- 'stillagelaw20.PlantAsks': WHATEVER THE INPUT: true; the input reads as it did. -/
def plantAsksSpec : ChangeSpec := { name := "plantAsks", fn := fun _ => fun
  | [d1, d2] => { results := [.lit (.bool true)], args := [d1, d2] }
  | _ => none }
def plantAsksRow : OpenClaim := { program := "ytncggholhmgoaaa", sum := "6125d03e490a33d7e55e78fda11bfb77c6cf07f358e3e1a367345ca9b1a64022", func := "stillage/stillagelaw20.PlantAsks", spec := "plantAsks", unfollowed := true, recurses := true, plainKeys := false, apart := false }
def PlantAsksSaid : Prop := plantAsksRow.holds Try.pinned (OpenSpec.ofChange plantAsksSpec)

/-- ITS FALSE NEIGHBOUR: 'it returns false'. Refute it at one input. -/
def plantAsksWrong : ChangeSpec := { name := "plantAsks", fn := fun _ => fun
  | [d1, d2] => { results := [.lit (.bool false)], args := [d1, d2] }
  | _ => none }
def PlantAsksWrongFalsely : Prop := plantAsksRow.holds Try.pinned (OpenSpec.ofChange plantAsksWrong)

/-- 'stillagelaw20.PlantPlays': WHATEVER THE INPUT: true; the input reads as it did. -/
def plantPlaysSpec : ChangeSpec := { name := "plantPlays", fn := fun _ => fun
  | [d1, d2] => { results := [.lit (.bool true)], args := [d1, d2] }
  | _ => none }
def plantPlaysRow : OpenClaim := { program := "ytncggholhmgoaaa", sum := "6125d03e490a33d7e55e78fda11bfb77c6cf07f358e3e1a367345ca9b1a64022", func := "stillage/stillagelaw20.PlantPlays", spec := "plantPlays", unfollowed := true, recurses := true, plainKeys := false, apart := false }
def PlantPlaysSaid : Prop := plantPlaysRow.holds Try.pinned (OpenSpec.ofChange plantPlaysSpec)

/-- ITS FALSE NEIGHBOUR: 'it returns false'. Refute it at one input. -/
def plantPlaysWrong : ChangeSpec := { name := "plantPlays", fn := fun _ => fun
  | [d1, d2] => { results := [.lit (.bool false)], args := [d1, d2] }
  | _ => none }
def PlantPlaysWrongFalsely : Prop := plantPlaysRow.holds Try.pinned (OpenSpec.ofChange plantPlaysWrong)

/-- 'stillagelaw20.PlantStill': WHATEVER THE INPUT: true; the input reads as it did. -/
def plantStillSpec : ChangeSpec := { name := "plantStill", fn := fun _ => fun
  | [d1, d2] => { results := [.lit (.bool true)], args := [d1, d2] }
  | _ => none }
def plantStillRow : OpenClaim := { program := "ytncggholhmgoaaa", sum := "6125d03e490a33d7e55e78fda11bfb77c6cf07f358e3e1a367345ca9b1a64022", func := "stillage/stillagelaw20.PlantStill", spec := "plantStill", unfollowed := true, recurses := true, plainKeys := false, apart := false }
def PlantStillSaid : Prop := plantStillRow.holds Try.pinned (OpenSpec.ofChange plantStillSpec)

/-- ITS FALSE NEIGHBOUR: 'it returns false'. Refute it at one input. -/
def plantStillWrong : ChangeSpec := { name := "plantStill", fn := fun _ => fun
  | [d1, d2] => { results := [.lit (.bool false)], args := [d1, d2] }
  | _ => none }
def PlantStillWrongFalsely : Prop := plantStillRow.holds Try.pinned (OpenSpec.ofChange plantStillWrong)

/-- 'stillagelaw17.MirrorWalks': WHATEVER THE INPUT: true; the input reads as it did. -/
def mirrorWalksSpec : ChangeSpec := { name := "mirrorWalks", fn := fun _ => fun
  | [d1, d2, d3] => { results := [.lit (.bool true)], args := [d1, d2, d3] }
  | _ => none }
def mirrorWalksRow : OpenClaim := { program := "ytncggholhmgoaaa", sum := "6125d03e490a33d7e55e78fda11bfb77c6cf07f358e3e1a367345ca9b1a64022", func := "stillage/stillagelaw17.MirrorWalks", spec := "mirrorWalks", unfollowed := true, recurses := true, plainKeys := false, apart := false }
def MirrorWalksSaid : Prop := mirrorWalksRow.holds Try.pinned (OpenSpec.ofChange mirrorWalksSpec)

/-- ITS FALSE NEIGHBOUR: 'it returns false'. Refute it at one input. -/
def mirrorWalksWrong : ChangeSpec := { name := "mirrorWalks", fn := fun _ => fun
  | [d1, d2, d3] => { results := [.lit (.bool false)], args := [d1, d2, d3] }
  | _ => none }
def MirrorWalksWrongFalsely : Prop := mirrorWalksRow.holds Try.pinned (OpenSpec.ofChange mirrorWalksWrong)

/-- 'stillagelaw17.MirrorOne': WHATEVER THE INPUT: true; the input reads as it did. -/
def mirrorOneSpec : ChangeSpec := { name := "mirrorOne", fn := fun _ => fun
  | [d1, d2] => { results := [.lit (.bool true)], args := [d1, d2] }
  | _ => none }
def mirrorOneRow : OpenClaim := { program := "ytncggholhmgoaaa", sum := "6125d03e490a33d7e55e78fda11bfb77c6cf07f358e3e1a367345ca9b1a64022", func := "stillage/stillagelaw17.MirrorOne", spec := "mirrorOne", unfollowed := true, recurses := true, plainKeys := false, apart := false }
def MirrorOneSaid : Prop := mirrorOneRow.holds Try.pinned (OpenSpec.ofChange mirrorOneSpec)

/-- ITS FALSE NEIGHBOUR: 'it returns false'. Refute it at one input. -/
def mirrorOneWrong : ChangeSpec := { name := "mirrorOne", fn := fun _ => fun
  | [d1, d2] => { results := [.lit (.bool false)], args := [d1, d2] }
  | _ => none }
def MirrorOneWrongFalsely : Prop := mirrorOneRow.holds Try.pinned (OpenSpec.ofChange mirrorOneWrong)

/-- 'stillagelaw17.MirrorCalls': WHATEVER THE INPUT: true; the input reads as it did. -/
def mirrorCallsSpec : ChangeSpec := { name := "mirrorCalls", fn := fun _ => fun
  | [d1, d2] => { results := [.lit (.bool true)], args := [d1, d2] }
  | _ => none }
def mirrorCallsRow : OpenClaim := { program := "ytncggholhmgoaaa", sum := "6125d03e490a33d7e55e78fda11bfb77c6cf07f358e3e1a367345ca9b1a64022", func := "stillage/stillagelaw17.MirrorCalls", spec := "mirrorCalls", unfollowed := true, recurses := true, plainKeys := false, apart := false }
def MirrorCallsSaid : Prop := mirrorCallsRow.holds Try.pinned (OpenSpec.ofChange mirrorCallsSpec)

/-- ITS FALSE NEIGHBOUR: 'it returns false'. Refute it at one input. -/
def mirrorCallsWrong : ChangeSpec := { name := "mirrorCalls", fn := fun _ => fun
  | [d1, d2] => { results := [.lit (.bool false)], args := [d1, d2] }
  | _ => none }
def MirrorCallsWrongFalsely : Prop := mirrorCallsRow.holds Try.pinned (OpenSpec.ofChange mirrorCallsWrong)

/-- 'stillagelaw17.MirrorMasks': WHATEVER THE INPUT: true; the input reads as it did. -/
def mirrorMasksSpec : ChangeSpec := { name := "mirrorMasks", fn := fun _ => fun
  | [d1, d2, d3] => { results := [.lit (.bool true)], args := [d1, d2, d3] }
  | _ => none }
def mirrorMasksRow : OpenClaim := { program := "ytncggholhmgoaaa", sum := "6125d03e490a33d7e55e78fda11bfb77c6cf07f358e3e1a367345ca9b1a64022", func := "stillage/stillagelaw17.MirrorMasks", spec := "mirrorMasks", unfollowed := true, recurses := true, plainKeys := false, apart := false }
def MirrorMasksSaid : Prop := mirrorMasksRow.holds Try.pinned (OpenSpec.ofChange mirrorMasksSpec)

/-- ITS FALSE NEIGHBOUR: 'it returns false'. Refute it at one input. -/
def mirrorMasksWrong : ChangeSpec := { name := "mirrorMasks", fn := fun _ => fun
  | [d1, d2, d3] => { results := [.lit (.bool false)], args := [d1, d2, d3] }
  | _ => none }
def MirrorMasksWrongFalsely : Prop := mirrorMasksRow.holds Try.pinned (OpenSpec.ofChange mirrorMasksWrong)

/-- 'stillagelaw17.MirrorPlays': WHATEVER THE INPUT: true; the input reads as it did. -/
def mirrorPlaysSpec : ChangeSpec := { name := "mirrorPlays", fn := fun _ => fun
  | [d1, d2] => { results := [.lit (.bool true)], args := [d1, d2] }
  | _ => none }
def mirrorPlaysRow : OpenClaim := { program := "ytncggholhmgoaaa", sum := "6125d03e490a33d7e55e78fda11bfb77c6cf07f358e3e1a367345ca9b1a64022", func := "stillage/stillagelaw17.MirrorPlays", spec := "mirrorPlays", unfollowed := true, recurses := true, plainKeys := false, apart := false }
def MirrorPlaysSaid : Prop := mirrorPlaysRow.holds Try.pinned (OpenSpec.ofChange mirrorPlaysSpec)

/-- ITS FALSE NEIGHBOUR: 'it returns false'. Refute it at one input. -/
def mirrorPlaysWrong : ChangeSpec := { name := "mirrorPlays", fn := fun _ => fun
  | [d1, d2] => { results := [.lit (.bool false)], args := [d1, d2] }
  | _ => none }
def MirrorPlaysWrongFalsely : Prop := mirrorPlaysRow.holds Try.pinned (OpenSpec.ofChange mirrorPlaysWrong)

/-- 'stillagelaw17.MirrorAgain': WHATEVER THE INPUT: true; the input reads as it did. -/
def mirrorAgainSpec : ChangeSpec := { name := "mirrorAgain", fn := fun _ => fun
  | [d1, d2] => { results := [.lit (.bool true)], args := [d1, d2] }
  | _ => none }
def mirrorAgainRow : OpenClaim := { program := "ytncggholhmgoaaa", sum := "6125d03e490a33d7e55e78fda11bfb77c6cf07f358e3e1a367345ca9b1a64022", func := "stillage/stillagelaw17.MirrorAgain", spec := "mirrorAgain", unfollowed := true, recurses := true, plainKeys := false, apart := false }
def MirrorAgainSaid : Prop := mirrorAgainRow.holds Try.pinned (OpenSpec.ofChange mirrorAgainSpec)

/-- ITS FALSE NEIGHBOUR: 'it returns false'. Refute it at one input. -/
def mirrorAgainWrong : ChangeSpec := { name := "mirrorAgain", fn := fun _ => fun
  | [d1, d2] => { results := [.lit (.bool false)], args := [d1, d2] }
  | _ => none }
def MirrorAgainWrongFalsely : Prop := mirrorAgainRow.holds Try.pinned (OpenSpec.ofChange mirrorAgainWrong)

/-- 'stillagelaw17.MirrorBack': WHATEVER THE INPUT: true; the input reads as it did. -/
def mirrorBackSpec : ChangeSpec := { name := "mirrorBack", fn := fun _ => fun
  | [d1, d2, d3] => { results := [.lit (.bool true)], args := [d1, d2, d3] }
  | _ => none }
def mirrorBackRow : OpenClaim := { program := "ytncggholhmgoaaa", sum := "6125d03e490a33d7e55e78fda11bfb77c6cf07f358e3e1a367345ca9b1a64022", func := "stillage/stillagelaw17.MirrorBack", spec := "mirrorBack", unfollowed := true, recurses := true, plainKeys := false, apart := false }
def MirrorBackSaid : Prop := mirrorBackRow.holds Try.pinned (OpenSpec.ofChange mirrorBackSpec)

/-- ITS FALSE NEIGHBOUR: 'it returns false'. Refute it at one input. -/
def mirrorBackWrong : ChangeSpec := { name := "mirrorBack", fn := fun _ => fun
  | [d1, d2, d3] => { results := [.lit (.bool false)], args := [d1, d2, d3] }
  | _ => none }
def MirrorBackWrongFalsely : Prop := mirrorBackRow.holds Try.pinned (OpenSpec.ofChange mirrorBackWrong)

/- THE SECOND FORM. 'bulk': how many values and letters a reading holds, each counted each time it is reached (what is shared counts as often as it is met; a slice's spare places count too). A statement '..UptoSaid' is the law's where the arguments, and the package variables that the reading takes, are together of bulk at most 1048576: NARROWER than '..Said'. Prove '..Said' where nothing that the law and all that it calls make is longer than what came in: it says more and counts as full. Else prove '..UptoSaid'. A law counts once. -/
mutual
def uptoBulk {H : Type} : DataW H → Nat
  | .lit (.string bytes) => bytes.length + 1
  | .lit _ => 1
  | .nil => 1
  | .ptr d => uptoBulk d + 1
  | .slice elems spare => uptoBulkAll elems + uptoBulkAll spare + 1
  | .agg parts => uptoBulkAll parts + 1
  | .iface _ d => uptoBulk d + 1
  | .map entries => uptoBulkEntries entries + 1
  | .held _ => 1
def uptoBulkAll {H : Type} : List (DataW H) → Nat
  | [] => 0
  | d :: r => uptoBulk d + uptoBulkAll r
def uptoBulkEntries {H : Type} : List (Lit × DataW H) → Nat
  | [] => 0
  | x :: r => uptoBulkEntry x + uptoBulkEntries r
def uptoBulkEntry {H : Type} : Lit × DataW H → Nat
  | (.string bytes, d) => bytes.length + uptoBulk d + 1
  | (_, d) => uptoBulk d + 1
 end
def uptoSmall : (H : Type) → List (DataW H) → Bool := fun _ ds => decide (uptoBulkAll ds ≤ 1048576)
def OpenSpec.upto (s : _root_.Go.ChangeSpec) : _root_.Go.OpenSpec := { _root_.Go.OpenSpec.ofChange s with cond := some uptoSmall }

/-- 'stillagelaw20.PlantRounds', WHERE WHAT IT READS IS OF BULK AT MOST 1048576: true; the input reads as it did. -/
def plantRoundsUptoRow : OpenClaim := { program := "ytncggholhmgoaaa", sum := "6125d03e490a33d7e55e78fda11bfb77c6cf07f358e3e1a367345ca9b1a64022", func := "stillage/stillagelaw20.PlantRounds", spec := "plantRounds", unfollowed := true, recurses := true, plainKeys := false, apart := false, narrowed := true }
def PlantRoundsUptoSaid : Prop := plantRoundsUptoRow.holds Try.pinned (OpenSpec.upto plantRoundsSpec)

/-- 'stillagelaw20.PlantTwice', WHERE WHAT IT READS IS OF BULK AT MOST 1048576: true; the input reads as it did. -/
def plantTwiceUptoRow : OpenClaim := { program := "ytncggholhmgoaaa", sum := "6125d03e490a33d7e55e78fda11bfb77c6cf07f358e3e1a367345ca9b1a64022", func := "stillage/stillagelaw20.PlantTwice", spec := "plantTwice", unfollowed := true, recurses := true, plainKeys := false, apart := false, narrowed := true }
def PlantTwiceUptoSaid : Prop := plantTwiceUptoRow.holds Try.pinned (OpenSpec.upto plantTwiceSpec)

/-- 'stillagelaw20.PlantFaults', WHERE WHAT IT READS IS OF BULK AT MOST 1048576: true; the input reads as it did. -/
def plantFaultsUptoRow : OpenClaim := { program := "ytncggholhmgoaaa", sum := "6125d03e490a33d7e55e78fda11bfb77c6cf07f358e3e1a367345ca9b1a64022", func := "stillage/stillagelaw20.PlantFaults", spec := "plantFaults", unfollowed := true, recurses := true, plainKeys := false, apart := false, narrowed := true }
def PlantFaultsUptoSaid : Prop := plantFaultsUptoRow.holds Try.pinned (OpenSpec.upto plantFaultsSpec)

/-- 'stillagelaw20.PlantAsks', WHERE WHAT IT READS IS OF BULK AT MOST 1048576: true; the input reads as it did. -/
def plantAsksUptoRow : OpenClaim := { program := "ytncggholhmgoaaa", sum := "6125d03e490a33d7e55e78fda11bfb77c6cf07f358e3e1a367345ca9b1a64022", func := "stillage/stillagelaw20.PlantAsks", spec := "plantAsks", unfollowed := true, recurses := true, plainKeys := false, apart := false, narrowed := true }
def PlantAsksUptoSaid : Prop := plantAsksUptoRow.holds Try.pinned (OpenSpec.upto plantAsksSpec)

/-- 'stillagelaw20.PlantPlays', WHERE WHAT IT READS IS OF BULK AT MOST 1048576: true; the input reads as it did. -/
def plantPlaysUptoRow : OpenClaim := { program := "ytncggholhmgoaaa", sum := "6125d03e490a33d7e55e78fda11bfb77c6cf07f358e3e1a367345ca9b1a64022", func := "stillage/stillagelaw20.PlantPlays", spec := "plantPlays", unfollowed := true, recurses := true, plainKeys := false, apart := false, narrowed := true }
def PlantPlaysUptoSaid : Prop := plantPlaysUptoRow.holds Try.pinned (OpenSpec.upto plantPlaysSpec)

/-- 'stillagelaw20.PlantStill', WHERE WHAT IT READS IS OF BULK AT MOST 1048576: true; the input reads as it did. -/
def plantStillUptoRow : OpenClaim := { program := "ytncggholhmgoaaa", sum := "6125d03e490a33d7e55e78fda11bfb77c6cf07f358e3e1a367345ca9b1a64022", func := "stillage/stillagelaw20.PlantStill", spec := "plantStill", unfollowed := true, recurses := true, plainKeys := false, apart := false, narrowed := true }
def PlantStillUptoSaid : Prop := plantStillUptoRow.holds Try.pinned (OpenSpec.upto plantStillSpec)

/-- 'stillagelaw17.MirrorWalks', WHERE WHAT IT READS IS OF BULK AT MOST 1048576: true; the input reads as it did. -/
def mirrorWalksUptoRow : OpenClaim := { program := "ytncggholhmgoaaa", sum := "6125d03e490a33d7e55e78fda11bfb77c6cf07f358e3e1a367345ca9b1a64022", func := "stillage/stillagelaw17.MirrorWalks", spec := "mirrorWalks", unfollowed := true, recurses := true, plainKeys := false, apart := false, narrowed := true }
def MirrorWalksUptoSaid : Prop := mirrorWalksUptoRow.holds Try.pinned (OpenSpec.upto mirrorWalksSpec)

/-- 'stillagelaw17.MirrorOne', WHERE WHAT IT READS IS OF BULK AT MOST 1048576: true; the input reads as it did. -/
def mirrorOneUptoRow : OpenClaim := { program := "ytncggholhmgoaaa", sum := "6125d03e490a33d7e55e78fda11bfb77c6cf07f358e3e1a367345ca9b1a64022", func := "stillage/stillagelaw17.MirrorOne", spec := "mirrorOne", unfollowed := true, recurses := true, plainKeys := false, apart := false, narrowed := true }
def MirrorOneUptoSaid : Prop := mirrorOneUptoRow.holds Try.pinned (OpenSpec.upto mirrorOneSpec)

/-- 'stillagelaw17.MirrorCalls', WHERE WHAT IT READS IS OF BULK AT MOST 1048576: true; the input reads as it did. -/
def mirrorCallsUptoRow : OpenClaim := { program := "ytncggholhmgoaaa", sum := "6125d03e490a33d7e55e78fda11bfb77c6cf07f358e3e1a367345ca9b1a64022", func := "stillage/stillagelaw17.MirrorCalls", spec := "mirrorCalls", unfollowed := true, recurses := true, plainKeys := false, apart := false, narrowed := true }
def MirrorCallsUptoSaid : Prop := mirrorCallsUptoRow.holds Try.pinned (OpenSpec.upto mirrorCallsSpec)

/-- 'stillagelaw17.MirrorMasks', WHERE WHAT IT READS IS OF BULK AT MOST 1048576: true; the input reads as it did. -/
def mirrorMasksUptoRow : OpenClaim := { program := "ytncggholhmgoaaa", sum := "6125d03e490a33d7e55e78fda11bfb77c6cf07f358e3e1a367345ca9b1a64022", func := "stillage/stillagelaw17.MirrorMasks", spec := "mirrorMasks", unfollowed := true, recurses := true, plainKeys := false, apart := false, narrowed := true }
def MirrorMasksUptoSaid : Prop := mirrorMasksUptoRow.holds Try.pinned (OpenSpec.upto mirrorMasksSpec)

/-- 'stillagelaw17.MirrorPlays', WHERE WHAT IT READS IS OF BULK AT MOST 1048576: true; the input reads as it did. -/
def mirrorPlaysUptoRow : OpenClaim := { program := "ytncggholhmgoaaa", sum := "6125d03e490a33d7e55e78fda11bfb77c6cf07f358e3e1a367345ca9b1a64022", func := "stillage/stillagelaw17.MirrorPlays", spec := "mirrorPlays", unfollowed := true, recurses := true, plainKeys := false, apart := false, narrowed := true }
def MirrorPlaysUptoSaid : Prop := mirrorPlaysUptoRow.holds Try.pinned (OpenSpec.upto mirrorPlaysSpec)

/-- 'stillagelaw17.MirrorAgain', WHERE WHAT IT READS IS OF BULK AT MOST 1048576: true; the input reads as it did. -/
def mirrorAgainUptoRow : OpenClaim := { program := "ytncggholhmgoaaa", sum := "6125d03e490a33d7e55e78fda11bfb77c6cf07f358e3e1a367345ca9b1a64022", func := "stillage/stillagelaw17.MirrorAgain", spec := "mirrorAgain", unfollowed := true, recurses := true, plainKeys := false, apart := false, narrowed := true }
def MirrorAgainUptoSaid : Prop := mirrorAgainUptoRow.holds Try.pinned (OpenSpec.upto mirrorAgainSpec)

/-- 'stillagelaw17.MirrorBack', WHERE WHAT IT READS IS OF BULK AT MOST 1048576: true; the input reads as it did. -/
def mirrorBackUptoRow : OpenClaim := { program := "ytncggholhmgoaaa", sum := "6125d03e490a33d7e55e78fda11bfb77c6cf07f358e3e1a367345ca9b1a64022", func := "stillage/stillagelaw17.MirrorBack", spec := "mirrorBack", unfollowed := true, recurses := true, plainKeys := false, apart := false, narrowed := true }
def MirrorBackUptoSaid : Prop := mirrorBackUptoRow.holds Try.pinned (OpenSpec.upto mirrorBackSpec)

end Rows
end Go.Proofs.Ytncggholhmgoaaa
