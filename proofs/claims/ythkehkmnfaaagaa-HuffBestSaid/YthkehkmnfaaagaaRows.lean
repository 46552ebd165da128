/-
  No cell of these rows narrows 'for every input' (looked for: loops, veiled, ifaces, maps, wideKeys, modest, calm, conditions, laid).
  DERIVED. THE GIVEN ROWS OF THIS SEAT. 9 by the template 'for every input the law returns true; each argument reads behind the call as it read before'; 0 by the template 'total and deterministic' (their statements: YthkehkmnfaaagaaTotals.lean).
  GIVEN WITH THE SEED: the statements are not yours to turn. If you find one false, say at which input.
  Laid BY PROGRAM, IN A SANDBOX (cutbox-rows.mjs): the forced cells as the released guide's own fill.sh prints them over the translation 37be442f672c160d… (all of the seat's roots in one cut). By AI agents, Wed Nov 11 2026. No macro, syntax, notation, axiom, sorry.
-/
import Derived.Test.YthkehkmnfaaagaaChecked
import GoSem.Claim
import GoSem.ClaimJoined
import GoSem.ClaimMapViews
import Derived.JoinedTies
import Derived.KernelRfl
namespace Go.Proofs.Ythkehkmnfaaagaa
/- THE CELL 'sum', in the pinned program and in every row, IS THE sha256 OF THE DUMP (.gsa) THAT YthkehkmnfaaagaaProg.lean LOADS. Nothing in Lean hashes anything: it is a label: what it is worth is what the hold of that sum in a sandbox is worth. -/
noncomputable def Try.pinned : Pinned := { name := "ythkehkmnfaaagaa", sum := "37be442f672c160d6912ba4436efb4e0213743f0a94bd5a188b7311bf6ba1f97", checked := Try.checked }
namespace Rows
def none {H : Type} : Left H := { results := [], args := [] }

/-- 'vitrinelaw02.HuffChecks': WHATEVER THE INPUT: true; the input reads as it did. -/
def huffChecksSpec : ChangeSpec := { name := "huffChecks", fn := fun _ => fun
  | [d] => { results := [.lit (.bool true)], args := [d] }
  | _ => none }
def huffChecksRow : OpenClaim := { program := "ythkehkmnfaaagaa", sum := "37be442f672c160d6912ba4436efb4e0213743f0a94bd5a188b7311bf6ba1f97", func := "vitrine/vitrinelaw02.HuffChecks", spec := "huffChecks", unfollowed := true, recurses := true, apart := false }
def HuffChecksSaid : Prop := huffChecksRow.holds Try.pinned (OpenSpec.ofChange huffChecksSpec)

/-- ITS FALSE NEIGHBOUR: 'it returns false'. Refute it at one input. -/
def huffChecksWrong : ChangeSpec := { name := "huffChecks", fn := fun _ => fun
  | [d] => { results := [.lit (.bool false)], args := [d] }
  | _ => none }
def HuffChecksWrongFalsely : Prop := huffChecksRow.holds Try.pinned (OpenSpec.ofChange huffChecksWrong)

/-- 'vitrinelaw02.HuffCodes': WHATEVER THE INPUT: true; the input reads as it did. -/
def huffCodesSpec : ChangeSpec := { name := "huffCodes", fn := fun _ => fun
  | [d] => { results := [.lit (.bool true)], args := [d] }
  | _ => none }
def huffCodesRow : OpenClaim := { program := "ythkehkmnfaaagaa", sum := "37be442f672c160d6912ba4436efb4e0213743f0a94bd5a188b7311bf6ba1f97", func := "vitrine/vitrinelaw02.HuffCodes", spec := "huffCodes", unfollowed := true, recurses := true, apart := false }
def HuffCodesSaid : Prop := huffCodesRow.holds Try.pinned (OpenSpec.ofChange huffCodesSpec)

/-- ITS FALSE NEIGHBOUR: 'it returns false'. Refute it at one input. -/
def huffCodesWrong : ChangeSpec := { name := "huffCodes", fn := fun _ => fun
  | [d] => { results := [.lit (.bool false)], args := [d] }
  | _ => none }
def HuffCodesWrongFalsely : Prop := huffCodesRow.holds Try.pinned (OpenSpec.ofChange huffCodesWrong)

/-- 'vitrinelaw02.HuffLimits': WHATEVER THE INPUT: true; the input reads as it did. -/
def huffLimitsSpec : ChangeSpec := { name := "huffLimits", fn := fun _ => fun
  | [d1, d2] => { results := [.lit (.bool true)], args := [d1, d2] }
  | _ => none }
def huffLimitsRow : OpenClaim := { program := "ythkehkmnfaaagaa", sum := "37be442f672c160d6912ba4436efb4e0213743f0a94bd5a188b7311bf6ba1f97", func := "vitrine/vitrinelaw02.HuffLimits", spec := "huffLimits", unfollowed := true, recurses := true, apart := false }
def HuffLimitsSaid : Prop := huffLimitsRow.holds Try.pinned (OpenSpec.ofChange huffLimitsSpec)

/-- ITS FALSE NEIGHBOUR: 'it returns false'. Refute it at one input. -/
def huffLimitsWrong : ChangeSpec := { name := "huffLimits", fn := fun _ => fun
  | [d1, d2] => { results := [.lit (.bool false)], args := [d1, d2] }
  | _ => none }
def HuffLimitsWrongFalsely : Prop := huffLimitsRow.holds Try.pinned (OpenSpec.ofChange huffLimitsWrong)

/-- 'vitrinelaw02.HuffBest': WHATEVER THE INPUT: true; the input reads as it did. -/
def huffBestSpec : ChangeSpec := { name := "huffBest", fn := fun _ => fun
  | [d1, d2] => { results := [.lit (.bool true)], args := [d1, d2] }
  | _ => none }
def huffBestRow : OpenClaim := { program := "ythkehkmnfaaagaa", sum := "37be442f672c160d6912ba4436efb4e0213743f0a94bd5a188b7311bf6ba1f97", func := "vitrine/vitrinelaw02.HuffBest", spec := "huffBest", unfollowed := true, recurses := true, apart := false }
def HuffBestSaid : Prop := huffBestRow.holds Try.pinned (OpenSpec.ofChange huffBestSpec)

/-- ITS FALSE NEIGHBOUR: 'it returns false'. Refute it at one input. -/
def huffBestWrong : ChangeSpec := { name := "huffBest", fn := fun _ => fun
  | [d1, d2] => { results := [.lit (.bool false)], args := [d1, d2] }
  | _ => none }
def HuffBestWrongFalsely : Prop := huffBestRow.holds Try.pinned (OpenSpec.ofChange huffBestWrong)

/-- 'vitrinelaw02.HuffMakes': WHATEVER THE INPUT: true; the input reads as it did. -/
def huffMakesSpec : ChangeSpec := { name := "huffMakes", fn := fun _ => fun
  | [d] => { results := [.lit (.bool true)], args := [d] }
  | _ => none }
def huffMakesRow : OpenClaim := { program := "ythkehkmnfaaagaa", sum := "37be442f672c160d6912ba4436efb4e0213743f0a94bd5a188b7311bf6ba1f97", func := "vitrine/vitrinelaw02.HuffMakes", spec := "huffMakes", unfollowed := true, recurses := true, apart := false }
def HuffMakesSaid : Prop := huffMakesRow.holds Try.pinned (OpenSpec.ofChange huffMakesSpec)

/-- ITS FALSE NEIGHBOUR: 'it returns false'. Refute it at one input. -/
def huffMakesWrong : ChangeSpec := { name := "huffMakes", fn := fun _ => fun
  | [d] => { results := [.lit (.bool false)], args := [d] }
  | _ => none }
def HuffMakesWrongFalsely : Prop := huffMakesRow.holds Try.pinned (OpenSpec.ofChange huffMakesWrong)

/-- 'vitrinelaw02.HuffLays': WHATEVER THE INPUT: true; the input reads as it did. -/
def huffLaysSpec : ChangeSpec := { name := "huffLays", fn := fun _ => fun
  | [d1, d2] => { results := [.lit (.bool true)], args := [d1, d2] }
  | _ => none }
def huffLaysRow : OpenClaim := { program := "ythkehkmnfaaagaa", sum := "37be442f672c160d6912ba4436efb4e0213743f0a94bd5a188b7311bf6ba1f97", func := "vitrine/vitrinelaw02.HuffLays", spec := "huffLays", unfollowed := true, recurses := true, apart := false }
def HuffLaysSaid : Prop := huffLaysRow.holds Try.pinned (OpenSpec.ofChange huffLaysSpec)

/-- ITS FALSE NEIGHBOUR: 'it returns false'. Refute it at one input. -/
def huffLaysWrong : ChangeSpec := { name := "huffLays", fn := fun _ => fun
  | [d1, d2] => { results := [.lit (.bool false)], args := [d1, d2] }
  | _ => none }
def HuffLaysWrongFalsely : Prop := huffLaysRow.holds Try.pinned (OpenSpec.ofChange huffLaysWrong)

/-- 'vitrinelaw02.HuffReads': WHATEVER THE INPUT: true; the input reads as it did. -/
def huffReadsSpec : ChangeSpec := { name := "huffReads", fn := fun _ => fun
  | [d1, d2] => { results := [.lit (.bool true)], args := [d1, d2] }
  | _ => none }
def huffReadsRow : OpenClaim := { program := "ythkehkmnfaaagaa", sum := "37be442f672c160d6912ba4436efb4e0213743f0a94bd5a188b7311bf6ba1f97", func := "vitrine/vitrinelaw02.HuffReads", spec := "huffReads", unfollowed := true, recurses := true, apart := false }
def HuffReadsSaid : Prop := huffReadsRow.holds Try.pinned (OpenSpec.ofChange huffReadsSpec)

/-- ITS FALSE NEIGHBOUR: 'it returns false'. Refute it at one input. -/
def huffReadsWrong : ChangeSpec := { name := "huffReads", fn := fun _ => fun
  | [d1, d2] => { results := [.lit (.bool false)], args := [d1, d2] }
  | _ => none }
def HuffReadsWrongFalsely : Prop := huffReadsRow.holds Try.pinned (OpenSpec.ofChange huffReadsWrong)

/-- 'vitrinelaw02.HuffNil': WHATEVER THE INPUT: true; the input reads as it did. -/
def huffNilSpec : ChangeSpec := { name := "huffNil", fn := fun _ => fun
  | [d] => { results := [.lit (.bool true)], args := [d] }
  | _ => none }
def huffNilRow : OpenClaim := { program := "ythkehkmnfaaagaa", sum := "37be442f672c160d6912ba4436efb4e0213743f0a94bd5a188b7311bf6ba1f97", func := "vitrine/vitrinelaw02.HuffNil", spec := "huffNil", unfollowed := true, recurses := true, apart := false }
def HuffNilSaid : Prop := huffNilRow.holds Try.pinned (OpenSpec.ofChange huffNilSpec)

/-- ITS FALSE NEIGHBOUR: 'it returns false'. Refute it at one input. -/
def huffNilWrong : ChangeSpec := { name := "huffNil", fn := fun _ => fun
  | [d] => { results := [.lit (.bool false)], args := [d] }
  | _ => none }
def HuffNilWrongFalsely : Prop := huffNilRow.holds Try.pinned (OpenSpec.ofChange huffNilWrong)

/-- 'vitrinelaw02.HuffBack': WHATEVER THE INPUT: true; the input reads as it did. -/
def huffBackSpec : ChangeSpec := { name := "huffBack", fn := fun _ => fun
  | [d1, d2] => { results := [.lit (.bool true)], args := [d1, d2] }
  | _ => none }
def huffBackRow : OpenClaim := { program := "ythkehkmnfaaagaa", sum := "37be442f672c160d6912ba4436efb4e0213743f0a94bd5a188b7311bf6ba1f97", func := "vitrine/vitrinelaw02.HuffBack", spec := "huffBack", unfollowed := true, recurses := true, apart := false }
def HuffBackSaid : Prop := huffBackRow.holds Try.pinned (OpenSpec.ofChange huffBackSpec)

/-- ITS FALSE NEIGHBOUR: 'it returns false'. Refute it at one input. -/
def huffBackWrong : ChangeSpec := { name := "huffBack", fn := fun _ => fun
  | [d1, d2] => { results := [.lit (.bool false)], args := [d1, d2] }
  | _ => none }
def HuffBackWrongFalsely : Prop := huffBackRow.holds Try.pinned (OpenSpec.ofChange huffBackWrong)

/- THE SECOND FORM. 'bulk': how many values and letters a reading holds, each counted each time it is reached (what is shared counts as often as it is met; a slice's spare places count too). A statement '..UptoSaid' is the law's where the arguments, and the package variables that the reading takes, are together of bulk at most 1048576: NARROWER than '..Said'. Prove '..Said' where nothing that the law and all that it calls make is longer than what came in: it says more and counts as full. Else prove '..UptoSaid'. A law counts once. -/
mutual
def uptoBulk {H : Type} : DataW H → Nat
  | .lit (.string bytes) => bytes.length + 1
  | .lit _ => 1
  | .nil => 1
  | .ptr d => uptoBulk d + 1
  | .slice elems spare => uptoBulkAll elems + uptoBulkAll spare + 1
  | .agg parts => uptoBulkAll parts + 1
  | .iface _ d => uptoBulk d + 1
  | .map entries => uptoBulkEntries entries + 1
  | .held _ => 1
def uptoBulkAll {H : Type} : List (DataW H) → Nat
  | [] => 0
  | d :: r => uptoBulk d + uptoBulkAll r
def uptoBulkEntries {H : Type} : List (Lit × DataW H) → Nat
  | [] => 0
  | x :: r => uptoBulkEntry x + uptoBulkEntries r
def uptoBulkEntry {H : Type} : Lit × DataW H → Nat
  | (.string bytes, d) => bytes.length + uptoBulk d + 1
  | (_, d) => uptoBulk d + 1
 end
def uptoSmall : (H : Type) → List (DataW H) → Bool := fun _ ds => decide (uptoBulkAll ds ≤ 1048576)
def OpenSpec.upto (s : _root_.Go.ChangeSpec) : _root_.Go.OpenSpec := { _root_.Go.OpenSpec.ofChange s with cond := some uptoSmall }

/-- 'vitrinelaw02.HuffChecks', WHERE WHAT IT READS IS OF BULK AT MOST 1048576: true; the input reads as it did. -/
def huffChecksUptoRow : OpenClaim := { program := "ythkehkmnfaaagaa", sum := "37be442f672c160d6912ba4436efb4e0213743f0a94bd5a188b7311bf6ba1f97", func := "vitrine/vitrinelaw02.HuffChecks", spec := "huffChecks", unfollowed := true, recurses := true, apart := false, narrowed := true }
def HuffChecksUptoSaid : Prop := huffChecksUptoRow.holds Try.pinned (OpenSpec.upto huffChecksSpec)

/-- 'vitrinelaw02.HuffCodes', WHERE WHAT IT READS IS OF BULK AT MOST 1048576: true; the input reads as it did. -/
def huffCodesUptoRow : OpenClaim := { program := "ythkehkmnfaaagaa", sum := "37be442f672c160d6912ba4436efb4e0213743f0a94bd5a188b7311bf6ba1f97", func := "vitrine/vitrinelaw02.HuffCodes", spec := "huffCodes", unfollowed := true, recurses := true, apart := false, narrowed := true }
def HuffCodesUptoSaid : Prop := huffCodesUptoRow.holds Try.pinned (OpenSpec.upto huffCodesSpec)

/-- 'vitrinelaw02.HuffLimits', WHERE WHAT IT READS IS OF BULK AT MOST 1048576: true; the input reads as it did. -/
def huffLimitsUptoRow : OpenClaim := { program := "ythkehkmnfaaagaa", sum := "37be442f672c160d6912ba4436efb4e0213743f0a94bd5a188b7311bf6ba1f97", func := "vitrine/vitrinelaw02.HuffLimits", spec := "huffLimits", unfollowed := true, recurses := true, apart := false, narrowed := true }
def HuffLimitsUptoSaid : Prop := huffLimitsUptoRow.holds Try.pinned (OpenSpec.upto huffLimitsSpec)

/-- 'vitrinelaw02.HuffBest', WHERE WHAT IT READS IS OF BULK AT MOST 1048576: true; the input reads as it did. -/
def huffBestUptoRow : OpenClaim := { program := "ythkehkmnfaaagaa", sum := "37be442f672c160d6912ba4436efb4e0213743f0a94bd5a188b7311bf6ba1f97", func := "vitrine/vitrinelaw02.HuffBest", spec := "huffBest", unfollowed := true, recurses := true, apart := false, narrowed := true }
def HuffBestUptoSaid : Prop := huffBestUptoRow.holds Try.pinned (OpenSpec.upto huffBestSpec)

/-- 'vitrinelaw02.HuffMakes', WHERE WHAT IT READS IS OF BULK AT MOST 1048576: true; the input reads as it did. -/
def huffMakesUptoRow : OpenClaim := { program := "ythkehkmnfaaagaa", sum := "37be442f672c160d6912ba4436efb4e0213743f0a94bd5a188b7311bf6ba1f97", func := "vitrine/vitrinelaw02.HuffMakes", spec := "huffMakes", unfollowed := true, recurses := true, apart := false, narrowed := true }
def HuffMakesUptoSaid : Prop := huffMakesUptoRow.holds Try.pinned (OpenSpec.upto huffMakesSpec)

/-- 'vitrinelaw02.HuffLays', WHERE WHAT IT READS IS OF BULK AT MOST 1048576: true; the input reads as it did. -/
def huffLaysUptoRow : OpenClaim := { program := "ythkehkmnfaaagaa", sum := "37be442f672c160d6912ba4436efb4e0213743f0a94bd5a188b7311bf6ba1f97", func := "vitrine/vitrinelaw02.HuffLays", spec := "huffLays", unfollowed := true, recurses := true, apart := false, narrowed := true }
def HuffLaysUptoSaid : Prop := huffLaysUptoRow.holds Try.pinned (OpenSpec.upto huffLaysSpec)

/-- 'vitrinelaw02.HuffReads', WHERE WHAT IT READS IS OF BULK AT MOST 1048576: true; the input reads as it did. -/
def huffReadsUptoRow : OpenClaim := { program := "ythkehkmnfaaagaa", sum := "37be442f672c160d6912ba4436efb4e0213743f0a94bd5a188b7311bf6ba1f97", func := "vitrine/vitrinelaw02.HuffReads", spec := "huffReads", unfollowed := true, recurses := true, apart := false, narrowed := true }
def HuffReadsUptoSaid : Prop := huffReadsUptoRow.holds Try.pinned (OpenSpec.upto huffReadsSpec)

/-- 'vitrinelaw02.HuffNil', WHERE WHAT IT READS IS OF BULK AT MOST 1048576: true; the input reads as it did. -/
def huffNilUptoRow : OpenClaim := { program := "ythkehkmnfaaagaa", sum := "37be442f672c160d6912ba4436efb4e0213743f0a94bd5a188b7311bf6ba1f97", func := "vitrine/vitrinelaw02.HuffNil", spec := "huffNil", unfollowed := true, recurses := true, apart := false, narrowed := true }
def HuffNilUptoSaid : Prop := huffNilUptoRow.holds Try.pinned (OpenSpec.upto huffNilSpec)

/-- 'vitrinelaw02.HuffBack', WHERE WHAT IT READS IS OF BULK AT MOST 1048576: true; the input reads as it did. -/
def huffBackUptoRow : OpenClaim := { program := "ythkehkmnfaaagaa", sum := "37be442f672c160d6912ba4436efb4e0213743f0a94bd5a188b7311bf6ba1f97", func := "vitrine/vitrinelaw02.HuffBack", spec := "huffBack", unfollowed := true, recurses := true, apart := false, narrowed := true }
def HuffBackUptoSaid : Prop := huffBackUptoRow.holds Try.pinned (OpenSpec.upto huffBackSpec)

end Rows
end Go.Proofs.Ythkehkmnfaaagaa
