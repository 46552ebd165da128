/-
  No cell of these rows narrows 'for every input' (looked for: loops, veiled, ifaces, maps, wideKeys, modest, calm, conditions, laid).
  DERIVED. THE GIVEN ROWS OF THIS SEAT. 5 by the template 'for every input the law returns true; each argument reads behind the call as it read before'; 0 by the template 'total and deterministic' (their statements: YtgdaiahnceaieaaTotals.lean).
  GIVEN WITH THE SEED: the statements are not yours to turn. If you find one false, say at which input.
  Laid BY PROGRAM, IN A SANDBOX (cutbox-rows.mjs): the forced cells as the released guide's own fill.sh prints them over the translation fefd2c44ddd7ffa2… (all of the seat's roots in one cut). By AI agents, Wed Nov 11 2026. No macro, syntax, notation, axiom, sorry.
-/
import Derived.Test.YtgdaiahnceaieaaChecked
import GoSem.Claim
import GoSem.ClaimJoined
import GoSem.ClaimMapViews
import Derived.JoinedTies
import Derived.KernelRfl
namespace Go.Proofs.Ytgdaiahnceaieaa
/- THE CELL 'sum', in the pinned program and in every row, IS THE sha256 OF THE DUMP (.gsa) THAT YtgdaiahnceaieaaProg.lean LOADS. Nothing in Lean hashes anything: it is a label: what it is worth is what the hold of that sum in a sandbox is worth. -/
noncomputable def Try.pinned : Pinned := { name := "ytgdaiahnceaieaa", sum := "fefd2c44ddd7ffa2aeed92951cc06528bf8959b533776e3a477cf89f1819da73", checked := Try.checked }
namespace Rows
def none {H : Type} : Left H := { results := [], args := [] }

/-- 'vitrinelaw17.SeglogKeeps': WHATEVER THE INPUT: true; the input reads as it did. -/
def seglogKeepsSpec : ChangeSpec := { name := "seglogKeeps", fn := fun _ => fun
  | [d1, d2] => { results := [.lit (.bool true)], args := [d1, d2] }
  | _ => none }
def seglogKeepsRow : OpenClaim := { program := "ytgdaiahnceaieaa", sum := "fefd2c44ddd7ffa2aeed92951cc06528bf8959b533776e3a477cf89f1819da73", func := "vitrine/vitrinelaw17.SeglogKeeps", spec := "seglogKeeps", inPlace := ["internal/abi.NoEscape"], unfollowed := true, recurses := true, apart := false }
def SeglogKeepsSaid : Prop := seglogKeepsRow.holds Try.pinned (OpenSpec.ofChange seglogKeepsSpec)

/-- ITS FALSE NEIGHBOUR: 'it returns false'. Refute it at one input. -/
def seglogKeepsWrong : ChangeSpec := { name := "seglogKeeps", fn := fun _ => fun
  | [d1, d2] => { results := [.lit (.bool false)], args := [d1, d2] }
  | _ => none }
def SeglogKeepsWrongFalsely : Prop := seglogKeepsRow.holds Try.pinned (OpenSpec.ofChange seglogKeepsWrong)

/-- 'vitrinelaw17.SeglogFrames': WHATEVER THE INPUT: true; the input reads as it did. -/
def seglogFramesSpec : ChangeSpec := { name := "seglogFrames", fn := fun _ => fun
  | [d1, d2] => { results := [.lit (.bool true)], args := [d1, d2] }
  | _ => none }
def seglogFramesRow : OpenClaim := { program := "ytgdaiahnceaieaa", sum := "fefd2c44ddd7ffa2aeed92951cc06528bf8959b533776e3a477cf89f1819da73", func := "vitrine/vitrinelaw17.SeglogFrames", spec := "seglogFrames", inPlace := ["internal/abi.NoEscape"], unfollowed := true, recurses := true, apart := false }
def SeglogFramesSaid : Prop := seglogFramesRow.holds Try.pinned (OpenSpec.ofChange seglogFramesSpec)

/-- ITS FALSE NEIGHBOUR: 'it returns false'. Refute it at one input. -/
def seglogFramesWrong : ChangeSpec := { name := "seglogFrames", fn := fun _ => fun
  | [d1, d2] => { results := [.lit (.bool false)], args := [d1, d2] }
  | _ => none }
def SeglogFramesWrongFalsely : Prop := seglogFramesRow.holds Try.pinned (OpenSpec.ofChange seglogFramesWrong)

/-- 'vitrinelaw17.SeglogNil': WHATEVER THE INPUT: true; the input reads as it did. -/
def seglogNilSpec : ChangeSpec := { name := "seglogNil", fn := fun _ => fun
  | [d] => { results := [.lit (.bool true)], args := [d] }
  | _ => none }
def seglogNilRow : OpenClaim := { program := "ytgdaiahnceaieaa", sum := "fefd2c44ddd7ffa2aeed92951cc06528bf8959b533776e3a477cf89f1819da73", func := "vitrine/vitrinelaw17.SeglogNil", spec := "seglogNil", inPlace := ["internal/abi.NoEscape"], unfollowed := true, recurses := true, apart := false }
def SeglogNilSaid : Prop := seglogNilRow.holds Try.pinned (OpenSpec.ofChange seglogNilSpec)

/-- ITS FALSE NEIGHBOUR: 'it returns false'. Refute it at one input. -/
def seglogNilWrong : ChangeSpec := { name := "seglogNil", fn := fun _ => fun
  | [d] => { results := [.lit (.bool false)], args := [d] }
  | _ => none }
def SeglogNilWrongFalsely : Prop := seglogNilRow.holds Try.pinned (OpenSpec.ofChange seglogNilWrong)

/-- 'vitrinelaw17.SeglogLasts': WHATEVER THE INPUT: true; the input reads as it did. -/
def seglogLastsSpec : ChangeSpec := { name := "seglogLasts", fn := fun _ => fun
  | [d1, d2, d3] => { results := [.lit (.bool true)], args := [d1, d2, d3] }
  | _ => none }
def seglogLastsRow : OpenClaim := { program := "ytgdaiahnceaieaa", sum := "fefd2c44ddd7ffa2aeed92951cc06528bf8959b533776e3a477cf89f1819da73", func := "vitrine/vitrinelaw17.SeglogLasts", spec := "seglogLasts", inPlace := ["internal/abi.NoEscape"], unfollowed := true, recurses := true, apart := false }
def SeglogLastsSaid : Prop := seglogLastsRow.holds Try.pinned (OpenSpec.ofChange seglogLastsSpec)

/-- ITS FALSE NEIGHBOUR: 'it returns false'. Refute it at one input. -/
def seglogLastsWrong : ChangeSpec := { name := "seglogLasts", fn := fun _ => fun
  | [d1, d2, d3] => { results := [.lit (.bool false)], args := [d1, d2, d3] }
  | _ => none }
def SeglogLastsWrongFalsely : Prop := seglogLastsRow.holds Try.pinned (OpenSpec.ofChange seglogLastsWrong)

/-- 'vitrinelaw17.SeglogPlays': WHATEVER THE INPUT: true; the input reads as it did. -/
def seglogPlaysSpec : ChangeSpec := { name := "seglogPlays", fn := fun _ => fun
  | [d1, d2] => { results := [.lit (.bool true)], args := [d1, d2] }
  | _ => none }
def seglogPlaysRow : OpenClaim := { program := "ytgdaiahnceaieaa", sum := "fefd2c44ddd7ffa2aeed92951cc06528bf8959b533776e3a477cf89f1819da73", func := "vitrine/vitrinelaw17.SeglogPlays", spec := "seglogPlays", inPlace := ["internal/abi.NoEscape"], unfollowed := true, recurses := true, apart := false }
def SeglogPlaysSaid : Prop := seglogPlaysRow.holds Try.pinned (OpenSpec.ofChange seglogPlaysSpec)

/-- ITS FALSE NEIGHBOUR: 'it returns false'. Refute it at one input. -/
def seglogPlaysWrong : ChangeSpec := { name := "seglogPlays", fn := fun _ => fun
  | [d1, d2] => { results := [.lit (.bool false)], args := [d1, d2] }
  | _ => none }
def SeglogPlaysWrongFalsely : Prop := seglogPlaysRow.holds Try.pinned (OpenSpec.ofChange seglogPlaysWrong)

/- THE SECOND FORM. 'bulk': how many values and letters a reading holds, each counted each time it is reached (what is shared counts as often as it is met; a slice's spare places count too). A statement '..UptoSaid' is the law's where the arguments, and the package variables that the reading takes, are together of bulk at most 1048576: NARROWER than '..Said'. Prove '..Said' where nothing that the law and all that it calls make is longer than what came in: it says more and counts as full. Else prove '..UptoSaid'. A law counts once. -/
mutual
def uptoBulk {H : Type} : DataW H → Nat
  | .lit (.string bytes) => bytes.length + 1
  | .lit _ => 1
  | .nil => 1
  | .ptr d => uptoBulk d + 1
  | .slice elems spare => uptoBulkAll elems + uptoBulkAll spare + 1
  | .agg parts => uptoBulkAll parts + 1
  | .iface _ d => uptoBulk d + 1
  | .map entries => uptoBulkEntries entries + 1
  | .held _ => 1
def uptoBulkAll {H : Type} : List (DataW H) → Nat
  | [] => 0
  | d :: r => uptoBulk d + uptoBulkAll r
def uptoBulkEntries {H : Type} : List (Lit × DataW H) → Nat
  | [] => 0
  | x :: r => uptoBulkEntry x + uptoBulkEntries r
def uptoBulkEntry {H : Type} : Lit × DataW H → Nat
  | (.string bytes, d) => bytes.length + uptoBulk d + 1
  | (_, d) => uptoBulk d + 1
 end
def uptoSmall : (H : Type) → List (DataW H) → Bool := fun _ ds => decide (uptoBulkAll ds ≤ 1048576)
def OpenSpec.upto (s : _root_.Go.ChangeSpec) : _root_.Go.OpenSpec := { _root_.Go.OpenSpec.ofChange s with cond := some uptoSmall }

/-- 'vitrinelaw17.SeglogKeeps', WHERE WHAT IT READS IS OF BULK AT MOST 1048576: true; the input reads as it did. -/
def seglogKeepsUptoRow : OpenClaim := { program := "ytgdaiahnceaieaa", sum := "fefd2c44ddd7ffa2aeed92951cc06528bf8959b533776e3a477cf89f1819da73", func := "vitrine/vitrinelaw17.SeglogKeeps", spec := "seglogKeeps", inPlace := ["internal/abi.NoEscape"], unfollowed := true, recurses := true, apart := false, narrowed := true }
def SeglogKeepsUptoSaid : Prop := seglogKeepsUptoRow.holds Try.pinned (OpenSpec.upto seglogKeepsSpec)

/-- 'vitrinelaw17.SeglogFrames', WHERE WHAT IT READS IS OF BULK AT MOST 1048576: true; the input reads as it did. -/
def seglogFramesUptoRow : OpenClaim := { program := "ytgdaiahnceaieaa", sum := "fefd2c44ddd7ffa2aeed92951cc06528bf8959b533776e3a477cf89f1819da73", func := "vitrine/vitrinelaw17.SeglogFrames", spec := "seglogFrames", inPlace := ["internal/abi.NoEscape"], unfollowed := true, recurses := true, apart := false, narrowed := true }
def SeglogFramesUptoSaid : Prop := seglogFramesUptoRow.holds Try.pinned (OpenSpec.upto seglogFramesSpec)

/-- 'vitrinelaw17.SeglogNil', WHERE WHAT IT READS IS OF BULK AT MOST 1048576: true; the input reads as it did. -/
def seglogNilUptoRow : OpenClaim := { program := "ytgdaiahnceaieaa", sum := "fefd2c44ddd7ffa2aeed92951cc06528bf8959b533776e3a477cf89f1819da73", func := "vitrine/vitrinelaw17.SeglogNil", spec := "seglogNil", inPlace := ["internal/abi.NoEscape"], unfollowed := true, recurses := true, apart := false, narrowed := true }
def SeglogNilUptoSaid : Prop := seglogNilUptoRow.holds Try.pinned (OpenSpec.upto seglogNilSpec)

/-- 'vitrinelaw17.SeglogLasts', WHERE WHAT IT READS IS OF BULK AT MOST 1048576: true; the input reads as it did. -/
def seglogLastsUptoRow : OpenClaim := { program := "ytgdaiahnceaieaa", sum := "fefd2c44ddd7ffa2aeed92951cc06528bf8959b533776e3a477cf89f1819da73", func := "vitrine/vitrinelaw17.SeglogLasts", spec := "seglogLasts", inPlace := ["internal/abi.NoEscape"], unfollowed := true, recurses := true, apart := false, narrowed := true }
def SeglogLastsUptoSaid : Prop := seglogLastsUptoRow.holds Try.pinned (OpenSpec.upto seglogLastsSpec)

/-- 'vitrinelaw17.SeglogPlays', WHERE WHAT IT READS IS OF BULK AT MOST 1048576: true; the input reads as it did. -/
def seglogPlaysUptoRow : OpenClaim := { program := "ytgdaiahnceaieaa", sum := "fefd2c44ddd7ffa2aeed92951cc06528bf8959b533776e3a477cf89f1819da73", func := "vitrine/vitrinelaw17.SeglogPlays", spec := "seglogPlays", inPlace := ["internal/abi.NoEscape"], unfollowed := true, recurses := true, apart := false, narrowed := true }
def SeglogPlaysUptoSaid : Prop := seglogPlaysUptoRow.holds Try.pinned (OpenSpec.upto seglogPlaysSpec)

end Rows
end Go.Proofs.Ytgdaiahnceaieaa
