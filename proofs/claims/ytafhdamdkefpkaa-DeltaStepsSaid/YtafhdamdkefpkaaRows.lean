/-
  No cell of these rows narrows 'for every input' (looked for: loops, veiled, ifaces, maps, wideKeys, modest, calm, conditions, laid).
  DERIVED. THE GIVEN ROWS OF THIS SEAT. 5 by the template 'for every input the law returns true; each argument reads behind the call as it read before'; 0 by the template 'total and deterministic' (their statements: YtafhdamdkefpkaaTotals.lean).
  GIVEN WITH THE SEED: the statements are not yours to turn. If you find one false, say at which input.
  Laid BY PROGRAM, IN A SANDBOX (cutbox-rows.mjs): the forced cells as the released guide's own fill.sh prints them over the translation 3fc9a9a3cd6c7314… (all of the seat's roots in one cut). By AI agents, Wed Nov 11 2026. No macro, syntax, notation, axiom, sorry.
-/
import Derived.Test.YtafhdamdkefpkaaChecked
import GoSem.Claim
import GoSem.ClaimJoined
import GoSem.ClaimMapViews
import Derived.JoinedTies
import Derived.KernelRfl
namespace Go.Proofs.Ytafhdamdkefpkaa
/- THE CELL 'sum', in the pinned program and in every row, IS THE sha256 OF THE DUMP (.gsa) THAT YtafhdamdkefpkaaProg.lean LOADS. Nothing in Lean hashes anything: it is a label: what it is worth is what the hold of that sum in a sandbox is worth. -/
noncomputable def Try.pinned : Pinned := { name := "ytafhdamdkefpkaa", sum := "3fc9a9a3cd6c7314c8f9b83b5733cccc99b6875b1eab3011c0b690cc1b908341", checked := Try.checked }
namespace Rows
def none {H : Type} : Left H := { results := [], args := [] }

/-- 'saleroomlaw12.DeltaSteps': WHATEVER THE INPUT: true; the input reads as it did. -/
def deltaStepsSpec : ChangeSpec := { name := "deltaSteps", fn := fun _ => fun
  | [d1, d2] => { results := [.lit (.bool true)], args := [d1, d2] }
  | _ => none }
def deltaStepsRow : OpenClaim := { program := "ytafhdamdkefpkaa", sum := "3fc9a9a3cd6c7314c8f9b83b5733cccc99b6875b1eab3011c0b690cc1b908341", func := "saleroom/saleroomlaw12.DeltaSteps", spec := "deltaSteps", inPlace := ["slices.overlaps[saleroom/api.Entry]"], unfollowed := true, recurses := true, apart := false }
def DeltaStepsSaid : Prop := deltaStepsRow.holds Try.pinned (OpenSpec.ofChange deltaStepsSpec)

/-- ITS FALSE NEIGHBOUR: 'it returns false'. Refute it at one input. -/
def deltaStepsWrong : ChangeSpec := { name := "deltaSteps", fn := fun _ => fun
  | [d1, d2] => { results := [.lit (.bool false)], args := [d1, d2] }
  | _ => none }
def DeltaStepsWrongFalsely : Prop := deltaStepsRow.holds Try.pinned (OpenSpec.ofChange deltaStepsWrong)

/-- 'saleroomlaw14.PrepCleans': WHATEVER THE INPUT: true; the input reads as it did. -/
def prepCleansSpec : ChangeSpec := { name := "prepCleans", fn := fun _ => fun
  | [d] => { results := [.lit (.bool true)], args := [d] }
  | _ => none }
def prepCleansRow : OpenClaim := { program := "ytafhdamdkefpkaa", sum := "3fc9a9a3cd6c7314c8f9b83b5733cccc99b6875b1eab3011c0b690cc1b908341", func := "saleroom/saleroomlaw14.PrepCleans", spec := "prepCleans", unfollowed := true, recurses := true, apart := false }
def PrepCleansSaid : Prop := prepCleansRow.holds Try.pinned (OpenSpec.ofChange prepCleansSpec)

/-- ITS FALSE NEIGHBOUR: 'it returns false'. Refute it at one input. -/
def prepCleansWrong : ChangeSpec := { name := "prepCleans", fn := fun _ => fun
  | [d] => { results := [.lit (.bool false)], args := [d] }
  | _ => none }
def PrepCleansWrongFalsely : Prop := prepCleansRow.holds Try.pinned (OpenSpec.ofChange prepCleansWrong)

/-- 'saleroomlaw14.PrepFrees': WHATEVER THE INPUT: true; the input reads as it did. -/
def prepFreesSpec : ChangeSpec := { name := "prepFrees", fn := fun _ => fun
  | [d1, d2, d3] => { results := [.lit (.bool true)], args := [d1, d2, d3] }
  | _ => none }
def prepFreesRow : OpenClaim := { program := "ytafhdamdkefpkaa", sum := "3fc9a9a3cd6c7314c8f9b83b5733cccc99b6875b1eab3011c0b690cc1b908341", func := "saleroom/saleroomlaw14.PrepFrees", spec := "prepFrees", unfollowed := true, recurses := true, apart := false }
def PrepFreesSaid : Prop := prepFreesRow.holds Try.pinned (OpenSpec.ofChange prepFreesSpec)

/-- ITS FALSE NEIGHBOUR: 'it returns false'. Refute it at one input. -/
def prepFreesWrong : ChangeSpec := { name := "prepFrees", fn := fun _ => fun
  | [d1, d2, d3] => { results := [.lit (.bool false)], args := [d1, d2, d3] }
  | _ => none }
def PrepFreesWrongFalsely : Prop := prepFreesRow.holds Try.pinned (OpenSpec.ofChange prepFreesWrong)

/-- 'saleroomlaw14.PrepGroups': WHATEVER THE INPUT: true; the input reads as it did. -/
def prepGroupsSpec : ChangeSpec := { name := "prepGroups", fn := fun _ => fun
  | [d1, d2] => { results := [.lit (.bool true)], args := [d1, d2] }
  | _ => none }
def prepGroupsRow : OpenClaim := { program := "ytafhdamdkefpkaa", sum := "3fc9a9a3cd6c7314c8f9b83b5733cccc99b6875b1eab3011c0b690cc1b908341", func := "saleroom/saleroomlaw14.PrepGroups", spec := "prepGroups", unfollowed := true, recurses := true, apart := false }
def PrepGroupsSaid : Prop := prepGroupsRow.holds Try.pinned (OpenSpec.ofChange prepGroupsSpec)

/-- ITS FALSE NEIGHBOUR: 'it returns false'. Refute it at one input. -/
def prepGroupsWrong : ChangeSpec := { name := "prepGroups", fn := fun _ => fun
  | [d1, d2] => { results := [.lit (.bool false)], args := [d1, d2] }
  | _ => none }
def PrepGroupsWrongFalsely : Prop := prepGroupsRow.holds Try.pinned (OpenSpec.ofChange prepGroupsWrong)

/-- 'saleroomlaw14.PrepBest': WHATEVER THE INPUT: true; the input reads as it did. -/
def prepBestSpec : ChangeSpec := { name := "prepBest", fn := fun _ => fun
  | [d1, d2] => { results := [.lit (.bool true)], args := [d1, d2] }
  | _ => none }
def prepBestRow : OpenClaim := { program := "ytafhdamdkefpkaa", sum := "3fc9a9a3cd6c7314c8f9b83b5733cccc99b6875b1eab3011c0b690cc1b908341", func := "saleroom/saleroomlaw14.PrepBest", spec := "prepBest", unfollowed := true, recurses := true, apart := false }
def PrepBestSaid : Prop := prepBestRow.holds Try.pinned (OpenSpec.ofChange prepBestSpec)

/-- ITS FALSE NEIGHBOUR: 'it returns false'. Refute it at one input. -/
def prepBestWrong : ChangeSpec := { name := "prepBest", fn := fun _ => fun
  | [d1, d2] => { results := [.lit (.bool false)], args := [d1, d2] }
  | _ => none }
def PrepBestWrongFalsely : Prop := prepBestRow.holds Try.pinned (OpenSpec.ofChange prepBestWrong)

/- THE SECOND FORM. 'bulk': how many values and letters a reading holds, each counted each time it is reached (what is shared counts as often as it is met; a slice's spare places count too). A statement '..UptoSaid' is the law's where the arguments, and the package variables that the reading takes, are together of bulk at most 1048576: NARROWER than '..Said'. Prove '..Said' where nothing that the law and all that it calls make is longer than what came in: it says more and counts as full. Else prove '..UptoSaid'. A law counts once. -/
mutual
def uptoBulk {H : Type} : DataW H → Nat
  | .lit (.string bytes) => bytes.length + 1
  | .lit _ => 1
  | .nil => 1
  | .ptr d => uptoBulk d + 1
  | .slice elems spare => uptoBulkAll elems + uptoBulkAll spare + 1
  | .agg parts => uptoBulkAll parts + 1
  | .iface _ d => uptoBulk d + 1
  | .map entries => uptoBulkEntries entries + 1
  | .held _ => 1
def uptoBulkAll {H : Type} : List (DataW H) → Nat
  | [] => 0
  | d :: r => uptoBulk d + uptoBulkAll r
def uptoBulkEntries {H : Type} : List (Lit × DataW H) → Nat
  | [] => 0
  | x :: r => uptoBulkEntry x + uptoBulkEntries r
def uptoBulkEntry {H : Type} : Lit × DataW H → Nat
  | (.string bytes, d) => bytes.length + uptoBulk d + 1
  | (_, d) => uptoBulk d + 1
 end
def uptoSmall : (H : Type) → List (DataW H) → Bool := fun _ ds => decide (uptoBulkAll ds ≤ 1048576)
def OpenSpec.upto (s : _root_.Go.ChangeSpec) : _root_.Go.OpenSpec := { _root_.Go.OpenSpec.ofChange s with cond := some uptoSmall }

/-- 'saleroomlaw12.DeltaSteps', WHERE WHAT IT READS IS OF BULK AT MOST 1048576: true; the input reads as it did. -/
def deltaStepsUptoRow : OpenClaim := { program := "ytafhdamdkefpkaa", sum := "3fc9a9a3cd6c7314c8f9b83b5733cccc99b6875b1eab3011c0b690cc1b908341", func := "saleroom/saleroomlaw12.DeltaSteps", spec := "deltaSteps", inPlace := ["slices.overlaps[saleroom/api.Entry]"], unfollowed := true, recurses := true, apart := false, narrowed := true }
def DeltaStepsUptoSaid : Prop := deltaStepsUptoRow.holds Try.pinned (OpenSpec.upto deltaStepsSpec)

/-- 'saleroomlaw14.PrepCleans', WHERE WHAT IT READS IS OF BULK AT MOST 1048576: true; the input reads as it did. -/
def prepCleansUptoRow : OpenClaim := { program := "ytafhdamdkefpkaa", sum := "3fc9a9a3cd6c7314c8f9b83b5733cccc99b6875b1eab3011c0b690cc1b908341", func := "saleroom/saleroomlaw14.PrepCleans", spec := "prepCleans", unfollowed := true, recurses := true, apart := false, narrowed := true }
def PrepCleansUptoSaid : Prop := prepCleansUptoRow.holds Try.pinned (OpenSpec.upto prepCleansSpec)

/-- 'saleroomlaw14.PrepFrees', WHERE WHAT IT READS IS OF BULK AT MOST 1048576: true; the input reads as it did. -/
def prepFreesUptoRow : OpenClaim := { program := "ytafhdamdkefpkaa", sum := "3fc9a9a3cd6c7314c8f9b83b5733cccc99b6875b1eab3011c0b690cc1b908341", func := "saleroom/saleroomlaw14.PrepFrees", spec := "prepFrees", unfollowed := true, recurses := true, apart := false, narrowed := true }
def PrepFreesUptoSaid : Prop := prepFreesUptoRow.holds Try.pinned (OpenSpec.upto prepFreesSpec)

/-- 'saleroomlaw14.PrepGroups', WHERE WHAT IT READS IS OF BULK AT MOST 1048576: true; the input reads as it did. -/
def prepGroupsUptoRow : OpenClaim := { program := "ytafhdamdkefpkaa", sum := "3fc9a9a3cd6c7314c8f9b83b5733cccc99b6875b1eab3011c0b690cc1b908341", func := "saleroom/saleroomlaw14.PrepGroups", spec := "prepGroups", unfollowed := true, recurses := true, apart := false, narrowed := true }
def PrepGroupsUptoSaid : Prop := prepGroupsUptoRow.holds Try.pinned (OpenSpec.upto prepGroupsSpec)

/-- 'saleroomlaw14.PrepBest', WHERE WHAT IT READS IS OF BULK AT MOST 1048576: true; the input reads as it did. -/
def prepBestUptoRow : OpenClaim := { program := "ytafhdamdkefpkaa", sum := "3fc9a9a3cd6c7314c8f9b83b5733cccc99b6875b1eab3011c0b690cc1b908341", func := "saleroom/saleroomlaw14.PrepBest", spec := "prepBest", unfollowed := true, recurses := true, apart := false, narrowed := true }
def PrepBestUptoSaid : Prop := prepBestUptoRow.holds Try.pinned (OpenSpec.upto prepBestSpec)

end Rows
end Go.Proofs.Ytafhdamdkefpkaa
