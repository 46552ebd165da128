/-
  No cell of these rows narrows 'for every input' (looked for: loops, veiled, ifaces, maps, wideKeys, modest, calm, conditions, laid).
  DERIVED. THE GIVEN ROWS OF THIS SEAT. 7 by the template 'for every input the law returns true; each argument reads behind the call as it read before'; 0 by the template 'total and deterministic' (their statements: YtcliekhikcaoiaaTotals.lean).
  GIVEN WITH THE SEED: the statements are not yours to turn. If you find one false, say at which input.
  Laid BY PROGRAM, IN A SANDBOX (cutbox-rows.mjs): the forced cells as the released guide's own fill.sh prints them over the translation a62b522ca9da842d… (all of the seat's roots in one cut). By AI agents, Wed Nov 11 2026. No macro, syntax, notation, axiom, sorry.
-/
import Derived.Test.YtcliekhikcaoiaaChecked
import GoSem.Claim
import GoSem.ClaimJoined
import GoSem.ClaimMapViews
import Derived.JoinedTies
import Derived.KernelRfl
namespace Go.Proofs.Ytcliekhikcaoiaa
/- THE CELL 'sum', in the pinned program and in every row, IS THE sha256 OF THE DUMP (.gsa) THAT YtcliekhikcaoiaaProg.lean LOADS. Nothing in Lean hashes anything: it is a label: what it is worth is what the hold of that sum in a sandbox is worth. -/
noncomputable def Try.pinned : Pinned := { name := "ytcliekhikcaoiaa", sum := "a62b522ca9da842d5595207a424cdfe660d098f6a3b154e2f68fbdb395dc968c", checked := Try.checked }
namespace Rows
def none {H : Type} : Left H := { results := [], args := [] }

/-- 'vitrinelaw05.DeflateRuns': WHATEVER THE INPUT: true; the input reads as it did. -/
def deflateRunsSpec : ChangeSpec := { name := "deflateRuns", fn := fun _ => fun
  | [d] => { results := [.lit (.bool true)], args := [d] }
  | _ => none }
def deflateRunsRow : OpenClaim := { program := "ytcliekhikcaoiaa", sum := "a62b522ca9da842d5595207a424cdfe660d098f6a3b154e2f68fbdb395dc968c", func := "vitrine/vitrinelaw05.DeflateRuns", spec := "deflateRuns", unfollowed := true, recurses := true, apart := false }
def DeflateRunsSaid : Prop := deflateRunsRow.holds Try.pinned (OpenSpec.ofChange deflateRunsSpec)

/-- ITS FALSE NEIGHBOUR: 'it returns false'. Refute it at one input. -/
def deflateRunsWrong : ChangeSpec := { name := "deflateRuns", fn := fun _ => fun
  | [d] => { results := [.lit (.bool false)], args := [d] }
  | _ => none }
def DeflateRunsWrongFalsely : Prop := deflateRunsRow.holds Try.pinned (OpenSpec.ofChange deflateRunsWrong)

/-- 'vitrinelaw05.DeflateStored': WHATEVER THE INPUT: true; the input reads as it did. -/
def deflateStoredSpec : ChangeSpec := { name := "deflateStored", fn := fun _ => fun
  | [d] => { results := [.lit (.bool true)], args := [d] }
  | _ => none }
def deflateStoredRow : OpenClaim := { program := "ytcliekhikcaoiaa", sum := "a62b522ca9da842d5595207a424cdfe660d098f6a3b154e2f68fbdb395dc968c", func := "vitrine/vitrinelaw05.DeflateStored", spec := "deflateStored", unfollowed := true, recurses := true, apart := false }
def DeflateStoredSaid : Prop := deflateStoredRow.holds Try.pinned (OpenSpec.ofChange deflateStoredSpec)

/-- ITS FALSE NEIGHBOUR: 'it returns false'. Refute it at one input. -/
def deflateStoredWrong : ChangeSpec := { name := "deflateStored", fn := fun _ => fun
  | [d] => { results := [.lit (.bool false)], args := [d] }
  | _ => none }
def DeflateStoredWrongFalsely : Prop := deflateStoredRow.holds Try.pinned (OpenSpec.ofChange deflateStoredWrong)

/-- 'vitrinelaw05.DeflateFixed': WHATEVER THE INPUT: true; the input reads as it did. -/
def deflateFixedSpec : ChangeSpec := { name := "deflateFixed", fn := fun _ => fun
  | [d] => { results := [.lit (.bool true)], args := [d] }
  | _ => none }
def deflateFixedRow : OpenClaim := { program := "ytcliekhikcaoiaa", sum := "a62b522ca9da842d5595207a424cdfe660d098f6a3b154e2f68fbdb395dc968c", func := "vitrine/vitrinelaw05.DeflateFixed", spec := "deflateFixed", unfollowed := true, recurses := true, apart := false }
def DeflateFixedSaid : Prop := deflateFixedRow.holds Try.pinned (OpenSpec.ofChange deflateFixedSpec)

/-- ITS FALSE NEIGHBOUR: 'it returns false'. Refute it at one input. -/
def deflateFixedWrong : ChangeSpec := { name := "deflateFixed", fn := fun _ => fun
  | [d] => { results := [.lit (.bool false)], args := [d] }
  | _ => none }
def DeflateFixedWrongFalsely : Prop := deflateFixedRow.holds Try.pinned (OpenSpec.ofChange deflateFixedWrong)

/-- 'vitrinelaw05.DeflateDynamic': WHATEVER THE INPUT: true; the input reads as it did. -/
def deflateDynamicSpec : ChangeSpec := { name := "deflateDynamic", fn := fun _ => fun
  | [d] => { results := [.lit (.bool true)], args := [d] }
  | _ => none }
def deflateDynamicRow : OpenClaim := { program := "ytcliekhikcaoiaa", sum := "a62b522ca9da842d5595207a424cdfe660d098f6a3b154e2f68fbdb395dc968c", func := "vitrine/vitrinelaw05.DeflateDynamic", spec := "deflateDynamic", unfollowed := true, recurses := true, apart := false }
def DeflateDynamicSaid : Prop := deflateDynamicRow.holds Try.pinned (OpenSpec.ofChange deflateDynamicSpec)

/-- ITS FALSE NEIGHBOUR: 'it returns false'. Refute it at one input. -/
def deflateDynamicWrong : ChangeSpec := { name := "deflateDynamic", fn := fun _ => fun
  | [d] => { results := [.lit (.bool false)], args := [d] }
  | _ => none }
def DeflateDynamicWrongFalsely : Prop := deflateDynamicRow.holds Try.pinned (OpenSpec.ofChange deflateDynamicWrong)

/-- 'vitrinelaw05.DeflateBest': WHATEVER THE INPUT: true; the input reads as it did. -/
def deflateBestSpec : ChangeSpec := { name := "deflateBest", fn := fun _ => fun
  | [d] => { results := [.lit (.bool true)], args := [d] }
  | _ => none }
def deflateBestRow : OpenClaim := { program := "ytcliekhikcaoiaa", sum := "a62b522ca9da842d5595207a424cdfe660d098f6a3b154e2f68fbdb395dc968c", func := "vitrine/vitrinelaw05.DeflateBest", spec := "deflateBest", unfollowed := true, recurses := true, apart := false }
def DeflateBestSaid : Prop := deflateBestRow.holds Try.pinned (OpenSpec.ofChange deflateBestSpec)

/-- ITS FALSE NEIGHBOUR: 'it returns false'. Refute it at one input. -/
def deflateBestWrong : ChangeSpec := { name := "deflateBest", fn := fun _ => fun
  | [d] => { results := [.lit (.bool false)], args := [d] }
  | _ => none }
def DeflateBestWrongFalsely : Prop := deflateBestRow.holds Try.pinned (OpenSpec.ofChange deflateBestWrong)

/-- 'vitrinelaw05.DeflateLeast': WHATEVER THE INPUT: true; the input reads as it did. -/
def deflateLeastSpec : ChangeSpec := { name := "deflateLeast", fn := fun _ => fun
  | [d] => { results := [.lit (.bool true)], args := [d] }
  | _ => none }
def deflateLeastRow : OpenClaim := { program := "ytcliekhikcaoiaa", sum := "a62b522ca9da842d5595207a424cdfe660d098f6a3b154e2f68fbdb395dc968c", func := "vitrine/vitrinelaw05.DeflateLeast", spec := "deflateLeast", unfollowed := true, recurses := true, apart := false }
def DeflateLeastSaid : Prop := deflateLeastRow.holds Try.pinned (OpenSpec.ofChange deflateLeastSpec)

/-- ITS FALSE NEIGHBOUR: 'it returns false'. Refute it at one input. -/
def deflateLeastWrong : ChangeSpec := { name := "deflateLeast", fn := fun _ => fun
  | [d] => { results := [.lit (.bool false)], args := [d] }
  | _ => none }
def DeflateLeastWrongFalsely : Prop := deflateLeastRow.holds Try.pinned (OpenSpec.ofChange deflateLeastWrong)

/-- 'vitrinelaw05.DeflateBack': WHATEVER THE INPUT: true; the input reads as it did. -/
def deflateBackSpec : ChangeSpec := { name := "deflateBack", fn := fun _ => fun
  | [d1, d2] => { results := [.lit (.bool true)], args := [d1, d2] }
  | _ => none }
def deflateBackRow : OpenClaim := { program := "ytcliekhikcaoiaa", sum := "a62b522ca9da842d5595207a424cdfe660d098f6a3b154e2f68fbdb395dc968c", func := "vitrine/vitrinelaw05.DeflateBack", spec := "deflateBack", unfollowed := true, recurses := true, apart := false }
def DeflateBackSaid : Prop := deflateBackRow.holds Try.pinned (OpenSpec.ofChange deflateBackSpec)

/-- ITS FALSE NEIGHBOUR: 'it returns false'. Refute it at one input. -/
def deflateBackWrong : ChangeSpec := { name := "deflateBack", fn := fun _ => fun
  | [d1, d2] => { results := [.lit (.bool false)], args := [d1, d2] }
  | _ => none }
def DeflateBackWrongFalsely : Prop := deflateBackRow.holds Try.pinned (OpenSpec.ofChange deflateBackWrong)

/- THE SECOND FORM. 'bulk': how many values and letters a reading holds, each counted each time it is reached (what is shared counts as often as it is met; a slice's spare places count too). A statement '..UptoSaid' is the law's where the arguments, and the package variables that the reading takes, are together of bulk at most 1048576: NARROWER than '..Said'. Prove '..Said' where nothing that the law and all that it calls make is longer than what came in: it says more and counts as full. Else prove '..UptoSaid'. A law counts once. -/
mutual
def uptoBulk {H : Type} : DataW H → Nat
  | .lit (.string bytes) => bytes.length + 1
  | .lit _ => 1
  | .nil => 1
  | .ptr d => uptoBulk d + 1
  | .slice elems spare => uptoBulkAll elems + uptoBulkAll spare + 1
  | .agg parts => uptoBulkAll parts + 1
  | .iface _ d => uptoBulk d + 1
  | .map entries => uptoBulkEntries entries + 1
  | .held _ => 1
def uptoBulkAll {H : Type} : List (DataW H) → Nat
  | [] => 0
  | d :: r => uptoBulk d + uptoBulkAll r
def uptoBulkEntries {H : Type} : List (Lit × DataW H) → Nat
  | [] => 0
  | x :: r => uptoBulkEntry x + uptoBulkEntries r
def uptoBulkEntry {H : Type} : Lit × DataW H → Nat
  | (.string bytes, d) => bytes.length + uptoBulk d + 1
  | (_, d) => uptoBulk d + 1
 end
def uptoSmall : (H : Type) → List (DataW H) → Bool := fun _ ds => decide (uptoBulkAll ds ≤ 1048576)
def OpenSpec.upto (s : _root_.Go.ChangeSpec) : _root_.Go.OpenSpec := { _root_.Go.OpenSpec.ofChange s with cond := some uptoSmall }

/-- 'vitrinelaw05.DeflateRuns', WHERE WHAT IT READS IS OF BULK AT MOST 1048576: true; the input reads as it did. -/
def deflateRunsUptoRow : OpenClaim := { program := "ytcliekhikcaoiaa", sum := "a62b522ca9da842d5595207a424cdfe660d098f6a3b154e2f68fbdb395dc968c", func := "vitrine/vitrinelaw05.DeflateRuns", spec := "deflateRuns", unfollowed := true, recurses := true, apart := false, narrowed := true }
def DeflateRunsUptoSaid : Prop := deflateRunsUptoRow.holds Try.pinned (OpenSpec.upto deflateRunsSpec)

/-- 'vitrinelaw05.DeflateStored', WHERE WHAT IT READS IS OF BULK AT MOST 1048576: true; the input reads as it did. -/
def deflateStoredUptoRow : OpenClaim := { program := "ytcliekhikcaoiaa", sum := "a62b522ca9da842d5595207a424cdfe660d098f6a3b154e2f68fbdb395dc968c", func := "vitrine/vitrinelaw05.DeflateStored", spec := "deflateStored", unfollowed := true, recurses := true, apart := false, narrowed := true }
def DeflateStoredUptoSaid : Prop := deflateStoredUptoRow.holds Try.pinned (OpenSpec.upto deflateStoredSpec)

/-- 'vitrinelaw05.DeflateFixed', WHERE WHAT IT READS IS OF BULK AT MOST 1048576: true; the input reads as it did. -/
def deflateFixedUptoRow : OpenClaim := { program := "ytcliekhikcaoiaa", sum := "a62b522ca9da842d5595207a424cdfe660d098f6a3b154e2f68fbdb395dc968c", func := "vitrine/vitrinelaw05.DeflateFixed", spec := "deflateFixed", unfollowed := true, recurses := true, apart := false, narrowed := true }
def DeflateFixedUptoSaid : Prop := deflateFixedUptoRow.holds Try.pinned (OpenSpec.upto deflateFixedSpec)

/-- 'vitrinelaw05.DeflateDynamic', WHERE WHAT IT READS IS OF BULK AT MOST 1048576: true; the input reads as it did. -/
def deflateDynamicUptoRow : OpenClaim := { program := "ytcliekhikcaoiaa", sum := "a62b522ca9da842d5595207a424cdfe660d098f6a3b154e2f68fbdb395dc968c", func := "vitrine/vitrinelaw05.DeflateDynamic", spec := "deflateDynamic", unfollowed := true, recurses := true, apart := false, narrowed := true }
def DeflateDynamicUptoSaid : Prop := deflateDynamicUptoRow.holds Try.pinned (OpenSpec.upto deflateDynamicSpec)

/-- 'vitrinelaw05.DeflateBest', WHERE WHAT IT READS IS OF BULK AT MOST 1048576: true; the input reads as it did. -/
def deflateBestUptoRow : OpenClaim := { program := "ytcliekhikcaoiaa", sum := "a62b522ca9da842d5595207a424cdfe660d098f6a3b154e2f68fbdb395dc968c", func := "vitrine/vitrinelaw05.DeflateBest", spec := "deflateBest", unfollowed := true, recurses := true, apart := false, narrowed := true }
def DeflateBestUptoSaid : Prop := deflateBestUptoRow.holds Try.pinned (OpenSpec.upto deflateBestSpec)

/-- 'vitrinelaw05.DeflateLeast', WHERE WHAT IT READS IS OF BULK AT MOST 1048576: true; the input reads as it did. -/
def deflateLeastUptoRow : OpenClaim := { program := "ytcliekhikcaoiaa", sum := "a62b522ca9da842d5595207a424cdfe660d098f6a3b154e2f68fbdb395dc968c", func := "vitrine/vitrinelaw05.DeflateLeast", spec := "deflateLeast", unfollowed := true, recurses := true, apart := false, narrowed := true }
def DeflateLeastUptoSaid : Prop := deflateLeastUptoRow.holds Try.pinned (OpenSpec.upto deflateLeastSpec)

/-- 'vitrinelaw05.DeflateBack', WHERE WHAT IT READS IS OF BULK AT MOST 1048576: true; the input reads as it did. -/
def deflateBackUptoRow : OpenClaim := { program := "ytcliekhikcaoiaa", sum := "a62b522ca9da842d5595207a424cdfe660d098f6a3b154e2f68fbdb395dc968c", func := "vitrine/vitrinelaw05.DeflateBack", spec := "deflateBack", unfollowed := true, recurses := true, apart := false, narrowed := true }
def DeflateBackUptoSaid : Prop := deflateBackUptoRow.holds Try.pinned (OpenSpec.upto deflateBackSpec)

end Rows
end Go.Proofs.Ytcliekhikcaoiaa
