/-
  No cell of these rows narrows 'for every input' (looked for: loops, veiled, ifaces, maps, wideKeys, modest, calm, conditions, laid).
  DERIVED. THE GIVEN ROWS OF THIS SEAT. 11 by the template 'for every input the law returns true; each argument reads behind the call as it read before'; 0 by the template 'total and deterministic' (their statements: YtjhmjjbllaodlaaTotals.lean).
  GIVEN WITH THE SEED: the statements are not yours to turn. If you find one false, say at which input.
  Laid BY PROGRAM, IN A SANDBOX (cutbox-rows.mjs): the forced cells as the released guide's own fill.sh prints them over the translation 0247a5300925207c… (all of the seat's roots in one cut). By AI agents, Wed Nov 11 2026. No macro, syntax, notation, axiom, sorry.
-/
import Derived.Test.YtjhmjjbllaodlaaChecked
import GoSem.Claim
import GoSem.ClaimJoined
import GoSem.ClaimMapViews
import Derived.JoinedTies
import Derived.KernelRfl
namespace Go.Proofs.Ytjhmjjbllaodlaa
/- THE CELL 'sum', in the pinned program and in every row, IS THE sha256 OF THE DUMP (.gsa) THAT YtjhmjjbllaodlaaProg.lean LOADS. Nothing in Lean hashes anything: it is a label: what it is worth is what the hold of that sum in a sandbox is worth. -/
noncomputable def Try.pinned : Pinned := { name := "ytjhmjjbllaodlaa", sum := "0247a5300925207c77973198e342a9390408c72d32686a58bd042072ae908746", checked := Try.checked }
namespace Rows
def none {H : Type} : Left H := { results := [], args := [] }

/-- 'vitrinelaw04.LzTokens': WHATEVER THE INPUT: true; the input reads as it did. -/
def lzTokensSpec : ChangeSpec := { name := "lzTokens", fn := fun _ => fun
  | [d] => { results := [.lit (.bool true)], args := [d] }
  | _ => none }
def lzTokensRow : OpenClaim := { program := "ytjhmjjbllaodlaa", sum := "0247a5300925207c77973198e342a9390408c72d32686a58bd042072ae908746", func := "vitrine/vitrinelaw04.LzTokens", spec := "lzTokens", unfollowed := true, recurses := true, apart := false }
def LzTokensSaid : Prop := lzTokensRow.holds Try.pinned (OpenSpec.ofChange lzTokensSpec)

/-- ITS FALSE NEIGHBOUR: 'it returns false'. Refute it at one input. -/
def lzTokensWrong : ChangeSpec := { name := "lzTokens", fn := fun _ => fun
  | [d] => { results := [.lit (.bool false)], args := [d] }
  | _ => none }
def LzTokensWrongFalsely : Prop := lzTokensRow.holds Try.pinned (OpenSpec.ofChange lzTokensWrong)

/-- 'vitrinelaw04.LzExpands': WHATEVER THE INPUT: true; the input reads as it did. -/
def lzExpandsSpec : ChangeSpec := { name := "lzExpands", fn := fun _ => fun
  | [d] => { results := [.lit (.bool true)], args := [d] }
  | _ => none }
def lzExpandsRow : OpenClaim := { program := "ytjhmjjbllaodlaa", sum := "0247a5300925207c77973198e342a9390408c72d32686a58bd042072ae908746", func := "vitrine/vitrinelaw04.LzExpands", spec := "lzExpands", unfollowed := true, recurses := true, apart := false }
def LzExpandsSaid : Prop := lzExpandsRow.holds Try.pinned (OpenSpec.ofChange lzExpandsSpec)

/-- ITS FALSE NEIGHBOUR: 'it returns false'. Refute it at one input. -/
def lzExpandsWrong : ChangeSpec := { name := "lzExpands", fn := fun _ => fun
  | [d] => { results := [.lit (.bool false)], args := [d] }
  | _ => none }
def LzExpandsWrongFalsely : Prop := lzExpandsRow.holds Try.pinned (OpenSpec.ofChange lzExpandsWrong)

/-- 'vitrinelaw04.LzBack': WHATEVER THE INPUT: true; the input reads as it did. -/
def lzBackSpec : ChangeSpec := { name := "lzBack", fn := fun _ => fun
  | [d] => { results := [.lit (.bool true)], args := [d] }
  | _ => none }
def lzBackRow : OpenClaim := { program := "ytjhmjjbllaodlaa", sum := "0247a5300925207c77973198e342a9390408c72d32686a58bd042072ae908746", func := "vitrine/vitrinelaw04.LzBack", spec := "lzBack", unfollowed := true, recurses := true, apart := false }
def LzBackSaid : Prop := lzBackRow.holds Try.pinned (OpenSpec.ofChange lzBackSpec)

/-- ITS FALSE NEIGHBOUR: 'it returns false'. Refute it at one input. -/
def lzBackWrong : ChangeSpec := { name := "lzBack", fn := fun _ => fun
  | [d] => { results := [.lit (.bool false)], args := [d] }
  | _ => none }
def LzBackWrongFalsely : Prop := lzBackRow.holds Try.pinned (OpenSpec.ofChange lzBackWrong)

/-- 'vitrinelaw04.LzLong': WHATEVER THE INPUT: true; the input reads as it did. -/
def lzLongSpec : ChangeSpec := { name := "lzLong", fn := fun _ => fun
  | [d1, d2] => { results := [.lit (.bool true)], args := [d1, d2] }
  | _ => none }
def lzLongRow : OpenClaim := { program := "ytjhmjjbllaodlaa", sum := "0247a5300925207c77973198e342a9390408c72d32686a58bd042072ae908746", func := "vitrine/vitrinelaw04.LzLong", spec := "lzLong", unfollowed := true, recurses := true, apart := false }
def LzLongSaid : Prop := lzLongRow.holds Try.pinned (OpenSpec.ofChange lzLongSpec)

/-- ITS FALSE NEIGHBOUR: 'it returns false'. Refute it at one input. -/
def lzLongWrong : ChangeSpec := { name := "lzLong", fn := fun _ => fun
  | [d1, d2] => { results := [.lit (.bool false)], args := [d1, d2] }
  | _ => none }
def LzLongWrongFalsely : Prop := lzLongRow.holds Try.pinned (OpenSpec.ofChange lzLongWrong)

/-- 'vitrinelaw01.BitsCrc': WHATEVER THE INPUT: true; the input reads as it did. -/
def bitsCrcSpec : ChangeSpec := { name := "bitsCrc", fn := fun _ => fun
  | [d] => { results := [.lit (.bool true)], args := [d] }
  | _ => none }
def bitsCrcRow : OpenClaim := { program := "ytjhmjjbllaodlaa", sum := "0247a5300925207c77973198e342a9390408c72d32686a58bd042072ae908746", func := "vitrine/vitrinelaw01.BitsCrc", spec := "bitsCrc", apart := false }
def BitsCrcSaid : Prop := bitsCrcRow.holds Try.pinned (OpenSpec.ofChange bitsCrcSpec)

/-- ITS FALSE NEIGHBOUR: 'it returns false'. Refute it at one input. -/
def bitsCrcWrong : ChangeSpec := { name := "bitsCrc", fn := fun _ => fun
  | [d] => { results := [.lit (.bool false)], args := [d] }
  | _ => none }
def BitsCrcWrongFalsely : Prop := bitsCrcRow.holds Try.pinned (OpenSpec.ofChange bitsCrcWrong)

/-- 'vitrinelaw01.BitsAdler': WHATEVER THE INPUT: true; the input reads as it did. -/
def bitsAdlerSpec : ChangeSpec := { name := "bitsAdler", fn := fun _ => fun
  | [d] => { results := [.lit (.bool true)], args := [d] }
  | _ => none }
def bitsAdlerRow : OpenClaim := { program := "ytjhmjjbllaodlaa", sum := "0247a5300925207c77973198e342a9390408c72d32686a58bd042072ae908746", func := "vitrine/vitrinelaw01.BitsAdler", spec := "bitsAdler", apart := false }
def BitsAdlerSaid : Prop := bitsAdlerRow.holds Try.pinned (OpenSpec.ofChange bitsAdlerSpec)

/-- ITS FALSE NEIGHBOUR: 'it returns false'. Refute it at one input. -/
def bitsAdlerWrong : ChangeSpec := { name := "bitsAdler", fn := fun _ => fun
  | [d] => { results := [.lit (.bool false)], args := [d] }
  | _ => none }
def BitsAdlerWrongFalsely : Prop := bitsAdlerRow.holds Try.pinned (OpenSpec.ofChange bitsAdlerWrong)

/-- 'vitrinelaw01.BitsReads': WHATEVER THE INPUT: true; the input reads as it did. -/
def bitsReadsSpec : ChangeSpec := { name := "bitsReads", fn := fun _ => fun
  | [d1, d2] => { results := [.lit (.bool true)], args := [d1, d2] }
  | _ => none }
def bitsReadsRow : OpenClaim := { program := "ytjhmjjbllaodlaa", sum := "0247a5300925207c77973198e342a9390408c72d32686a58bd042072ae908746", func := "vitrine/vitrinelaw01.BitsReads", spec := "bitsReads", apart := false }
def BitsReadsSaid : Prop := bitsReadsRow.holds Try.pinned (OpenSpec.ofChange bitsReadsSpec)

/-- ITS FALSE NEIGHBOUR: 'it returns false'. Refute it at one input. -/
def bitsReadsWrong : ChangeSpec := { name := "bitsReads", fn := fun _ => fun
  | [d1, d2] => { results := [.lit (.bool false)], args := [d1, d2] }
  | _ => none }
def BitsReadsWrongFalsely : Prop := bitsReadsRow.holds Try.pinned (OpenSpec.ofChange bitsReadsWrong)

/-- 'vitrinelaw01.BitsWrites': WHATEVER THE INPUT: true; the input reads as it did. -/
def bitsWritesSpec : ChangeSpec := { name := "bitsWrites", fn := fun _ => fun
  | [d] => { results := [.lit (.bool true)], args := [d] }
  | _ => none }
def bitsWritesRow : OpenClaim := { program := "ytjhmjjbllaodlaa", sum := "0247a5300925207c77973198e342a9390408c72d32686a58bd042072ae908746", func := "vitrine/vitrinelaw01.BitsWrites", spec := "bitsWrites", apart := false }
def BitsWritesSaid : Prop := bitsWritesRow.holds Try.pinned (OpenSpec.ofChange bitsWritesSpec)

/-- ITS FALSE NEIGHBOUR: 'it returns false'. Refute it at one input. -/
def bitsWritesWrong : ChangeSpec := { name := "bitsWrites", fn := fun _ => fun
  | [d] => { results := [.lit (.bool false)], args := [d] }
  | _ => none }
def BitsWritesWrongFalsely : Prop := bitsWritesRow.holds Try.pinned (OpenSpec.ofChange bitsWritesWrong)

/-- 'vitrinelaw01.BitsBack': WHATEVER THE INPUT: true; the input reads as it did. -/
def bitsBackSpec : ChangeSpec := { name := "bitsBack", fn := fun _ => fun
  | [d] => { results := [.lit (.bool true)], args := [d] }
  | _ => none }
def bitsBackRow : OpenClaim := { program := "ytjhmjjbllaodlaa", sum := "0247a5300925207c77973198e342a9390408c72d32686a58bd042072ae908746", func := "vitrine/vitrinelaw01.BitsBack", spec := "bitsBack", apart := false }
def BitsBackSaid : Prop := bitsBackRow.holds Try.pinned (OpenSpec.ofChange bitsBackSpec)

/-- ITS FALSE NEIGHBOUR: 'it returns false'. Refute it at one input. -/
def bitsBackWrong : ChangeSpec := { name := "bitsBack", fn := fun _ => fun
  | [d] => { results := [.lit (.bool false)], args := [d] }
  | _ => none }
def BitsBackWrongFalsely : Prop := bitsBackRow.holds Try.pinned (OpenSpec.ofChange bitsBackWrong)

/-- 'vitrinelaw01.BitsTold': WHATEVER THE INPUT: true; the input reads as it did. -/
def bitsToldSpec : ChangeSpec := { name := "bitsTold", fn := fun _ => fun
  | [d1, d2, d3] => { results := [.lit (.bool true)], args := [d1, d2, d3] }
  | _ => none }
def bitsToldRow : OpenClaim := { program := "ytjhmjjbllaodlaa", sum := "0247a5300925207c77973198e342a9390408c72d32686a58bd042072ae908746", func := "vitrine/vitrinelaw01.BitsTold", spec := "bitsTold", apart := false }
def BitsToldSaid : Prop := bitsToldRow.holds Try.pinned (OpenSpec.ofChange bitsToldSpec)

/-- ITS FALSE NEIGHBOUR: 'it returns false'. Refute it at one input. -/
def bitsToldWrong : ChangeSpec := { name := "bitsTold", fn := fun _ => fun
  | [d1, d2, d3] => { results := [.lit (.bool false)], args := [d1, d2, d3] }
  | _ => none }
def BitsToldWrongFalsely : Prop := bitsToldRow.holds Try.pinned (OpenSpec.ofChange bitsToldWrong)

/-- 'vitrinelaw01.BitsNil': WHATEVER THE INPUT: true; the input reads as it did. -/
def bitsNilSpec : ChangeSpec := { name := "bitsNil", fn := fun _ => fun
  | [d] => { results := [.lit (.bool true)], args := [d] }
  | _ => none }
def bitsNilRow : OpenClaim := { program := "ytjhmjjbllaodlaa", sum := "0247a5300925207c77973198e342a9390408c72d32686a58bd042072ae908746", func := "vitrine/vitrinelaw01.BitsNil", spec := "bitsNil", apart := false }
def BitsNilSaid : Prop := bitsNilRow.holds Try.pinned (OpenSpec.ofChange bitsNilSpec)

/-- ITS FALSE NEIGHBOUR: 'it returns false'. Refute it at one input. -/
def bitsNilWrong : ChangeSpec := { name := "bitsNil", fn := fun _ => fun
  | [d] => { results := [.lit (.bool false)], args := [d] }
  | _ => none }
def BitsNilWrongFalsely : Prop := bitsNilRow.holds Try.pinned (OpenSpec.ofChange bitsNilWrong)

/- THE SECOND FORM. 'bulk': how many values and letters a reading holds, each counted each time it is reached (what is shared counts as often as it is met; a slice's spare places count too). A statement '..UptoSaid' is the law's where the arguments, and the package variables that the reading takes, are together of bulk at most 1048576: NARROWER than '..Said'. Prove '..Said' where nothing that the law and all that it calls make is longer than what came in: it says more and counts as full. Else prove '..UptoSaid'. A law counts once. -/
mutual
def uptoBulk {H : Type} : DataW H → Nat
  | .lit (.string bytes) => bytes.length + 1
  | .lit _ => 1
  | .nil => 1
  | .ptr d => uptoBulk d + 1
  | .slice elems spare => uptoBulkAll elems + uptoBulkAll spare + 1
  | .agg parts => uptoBulkAll parts + 1
  | .iface _ d => uptoBulk d + 1
  | .map entries => uptoBulkEntries entries + 1
  | .held _ => 1
def uptoBulkAll {H : Type} : List (DataW H) → Nat
  | [] => 0
  | d :: r => uptoBulk d + uptoBulkAll r
def uptoBulkEntries {H : Type} : List (Lit × DataW H) → Nat
  | [] => 0
  | x :: r => uptoBulkEntry x + uptoBulkEntries r
def uptoBulkEntry {H : Type} : Lit × DataW H → Nat
  | (.string bytes, d) => bytes.length + uptoBulk d + 1
  | (_, d) => uptoBulk d + 1
 end
def uptoSmall : (H : Type) → List (DataW H) → Bool := fun _ ds => decide (uptoBulkAll ds ≤ 1048576)
def OpenSpec.upto (s : _root_.Go.ChangeSpec) : _root_.Go.OpenSpec := { _root_.Go.OpenSpec.ofChange s with cond := some uptoSmall }

/-- 'vitrinelaw04.LzTokens', WHERE WHAT IT READS IS OF BULK AT MOST 1048576: true; the input reads as it did. -/
def lzTokensUptoRow : OpenClaim := { program := "ytjhmjjbllaodlaa", sum := "0247a5300925207c77973198e342a9390408c72d32686a58bd042072ae908746", func := "vitrine/vitrinelaw04.LzTokens", spec := "lzTokens", unfollowed := true, recurses := true, apart := false, narrowed := true }
def LzTokensUptoSaid : Prop := lzTokensUptoRow.holds Try.pinned (OpenSpec.upto lzTokensSpec)

/-- 'vitrinelaw04.LzExpands', WHERE WHAT IT READS IS OF BULK AT MOST 1048576: true; the input reads as it did. -/
def lzExpandsUptoRow : OpenClaim := { program := "ytjhmjjbllaodlaa", sum := "0247a5300925207c77973198e342a9390408c72d32686a58bd042072ae908746", func := "vitrine/vitrinelaw04.LzExpands", spec := "lzExpands", unfollowed := true, recurses := true, apart := false, narrowed := true }
def LzExpandsUptoSaid : Prop := lzExpandsUptoRow.holds Try.pinned (OpenSpec.upto lzExpandsSpec)

/-- 'vitrinelaw04.LzBack', WHERE WHAT IT READS IS OF BULK AT MOST 1048576: true; the input reads as it did. -/
def lzBackUptoRow : OpenClaim := { program := "ytjhmjjbllaodlaa", sum := "0247a5300925207c77973198e342a9390408c72d32686a58bd042072ae908746", func := "vitrine/vitrinelaw04.LzBack", spec := "lzBack", unfollowed := true, recurses := true, apart := false, narrowed := true }
def LzBackUptoSaid : Prop := lzBackUptoRow.holds Try.pinned (OpenSpec.upto lzBackSpec)

/-- 'vitrinelaw04.LzLong', WHERE WHAT IT READS IS OF BULK AT MOST 1048576: true; the input reads as it did. -/
def lzLongUptoRow : OpenClaim := { program := "ytjhmjjbllaodlaa", sum := "0247a5300925207c77973198e342a9390408c72d32686a58bd042072ae908746", func := "vitrine/vitrinelaw04.LzLong", spec := "lzLong", unfollowed := true, recurses := true, apart := false, narrowed := true }
def LzLongUptoSaid : Prop := lzLongUptoRow.holds Try.pinned (OpenSpec.upto lzLongSpec)

/-- 'vitrinelaw01.BitsCrc', WHERE WHAT IT READS IS OF BULK AT MOST 1048576: true; the input reads as it did. -/
def bitsCrcUptoRow : OpenClaim := { program := "ytjhmjjbllaodlaa", sum := "0247a5300925207c77973198e342a9390408c72d32686a58bd042072ae908746", func := "vitrine/vitrinelaw01.BitsCrc", spec := "bitsCrc", apart := false, narrowed := true }
def BitsCrcUptoSaid : Prop := bitsCrcUptoRow.holds Try.pinned (OpenSpec.upto bitsCrcSpec)

/-- 'vitrinelaw01.BitsAdler', WHERE WHAT IT READS IS OF BULK AT MOST 1048576: true; the input reads as it did. -/
def bitsAdlerUptoRow : OpenClaim := { program := "ytjhmjjbllaodlaa", sum := "0247a5300925207c77973198e342a9390408c72d32686a58bd042072ae908746", func := "vitrine/vitrinelaw01.BitsAdler", spec := "bitsAdler", apart := false, narrowed := true }
def BitsAdlerUptoSaid : Prop := bitsAdlerUptoRow.holds Try.pinned (OpenSpec.upto bitsAdlerSpec)

/-- 'vitrinelaw01.BitsReads', WHERE WHAT IT READS IS OF BULK AT MOST 1048576: true; the input reads as it did. -/
def bitsReadsUptoRow : OpenClaim := { program := "ytjhmjjbllaodlaa", sum := "0247a5300925207c77973198e342a9390408c72d32686a58bd042072ae908746", func := "vitrine/vitrinelaw01.BitsReads", spec := "bitsReads", apart := false, narrowed := true }
def BitsReadsUptoSaid : Prop := bitsReadsUptoRow.holds Try.pinned (OpenSpec.upto bitsReadsSpec)

/-- 'vitrinelaw01.BitsWrites', WHERE WHAT IT READS IS OF BULK AT MOST 1048576: true; the input reads as it did. -/
def bitsWritesUptoRow : OpenClaim := { program := "ytjhmjjbllaodlaa", sum := "0247a5300925207c77973198e342a9390408c72d32686a58bd042072ae908746", func := "vitrine/vitrinelaw01.BitsWrites", spec := "bitsWrites", apart := false, narrowed := true }
def BitsWritesUptoSaid : Prop := bitsWritesUptoRow.holds Try.pinned (OpenSpec.upto bitsWritesSpec)

/-- 'vitrinelaw01.BitsBack', WHERE WHAT IT READS IS OF BULK AT MOST 1048576: true; the input reads as it did. -/
def bitsBackUptoRow : OpenClaim := { program := "ytjhmjjbllaodlaa", sum := "0247a5300925207c77973198e342a9390408c72d32686a58bd042072ae908746", func := "vitrine/vitrinelaw01.BitsBack", spec := "bitsBack", apart := false, narrowed := true }
def BitsBackUptoSaid : Prop := bitsBackUptoRow.holds Try.pinned (OpenSpec.upto bitsBackSpec)

/-- 'vitrinelaw01.BitsTold', WHERE WHAT IT READS IS OF BULK AT MOST 1048576: true; the input reads as it did. -/
def bitsToldUptoRow : OpenClaim := { program := "ytjhmjjbllaodlaa", sum := "0247a5300925207c77973198e342a9390408c72d32686a58bd042072ae908746", func := "vitrine/vitrinelaw01.BitsTold", spec := "bitsTold", apart := false, narrowed := true }
def BitsToldUptoSaid : Prop := bitsToldUptoRow.holds Try.pinned (OpenSpec.upto bitsToldSpec)

/-- 'vitrinelaw01.BitsNil', WHERE WHAT IT READS IS OF BULK AT MOST 1048576: true; the input reads as it did. -/
def bitsNilUptoRow : OpenClaim := { program := "ytjhmjjbllaodlaa", sum := "0247a5300925207c77973198e342a9390408c72d32686a58bd042072ae908746", func := "vitrine/vitrinelaw01.BitsNil", spec := "bitsNil", apart := false, narrowed := true }
def BitsNilUptoSaid : Prop := bitsNilUptoRow.holds Try.pinned (OpenSpec.upto bitsNilSpec)

end Rows
end Go.Proofs.Ytjhmjjbllaodlaa
