/-
  No cell of these rows narrows 'for every input' (looked for: loops, veiled, ifaces, maps, wideKeys, modest, calm, conditions, laid).
  DERIVED. THE GIVEN ROWS OF THIS SEAT. 7 by the template 'for every input the law returns true; each argument reads behind the call as it read before'; 0 by the template 'total and deterministic' (their statements: YtomldponnggnfaaGreatTotals.lean).
  GIVEN WITH THE SEED: the statements are not yours to turn. If you find one false, say at which input.
  Laid BY PROGRAM, IN A SANDBOX (cutbox-rows.mjs): the forced cells as the released guide's own fill.sh prints them over the translation 1ada25053ac94ec4… (all of the seat's roots in one cut). By AI agents, Wed Nov 11 2026. No macro, syntax, notation, axiom, sorry.
-/
import Derived.Test.YtomldponnggnfaaGreatChecked
import GoSem.Claim
import GoSem.ClaimJoined
import GoSem.ClaimMapViews
import Derived.JoinedTies
import Derived.KernelRfl
namespace Go.Proofs.YtomldponnggnfaaGreat
/- THE CELL 'sum', in the pinned program and in every row, IS THE sha256 OF THE DUMP (.gsa) THAT YtomldponnggnfaaGreatProg.lean LOADS. Nothing in Lean hashes anything: it is a label: what it is worth is what the hold of that sum in a sandbox is worth. -/
noncomputable def Tryz.pinned : Pinned := { name := "ytomldponnggnfaagreat", sum := "1ada25053ac94ec47a9e18f1a476641a4c2e7708995c2c05401c97417f7aabc2", checked := Tryz.checked }
namespace Rows
def none {H : Type} : Left H := { results := [], args := [] }

/-- 'vitrinelaw21.ReplicaNil': WHATEVER THE INPUT: true; the input reads as it did. -/
def replicaNilSpec : ChangeSpec := { name := "replicaNil", fn := fun _ => fun
  | [d] => { results := [.lit (.bool true)], args := [d] }
  | _ => none }
def replicaNilRow : OpenClaim := { program := "ytomldponnggnfaagreat", sum := "1ada25053ac94ec47a9e18f1a476641a4c2e7708995c2c05401c97417f7aabc2", func := "vitrine/vitrinelaw21.ReplicaNil", spec := "replicaNil", inPlace := ["internal/abi.NoEscape", "internal/bytealg.MakeNoZero"], unfollowed := true, recurses := true, apart := false }
def ReplicaNilSaid : Prop := replicaNilRow.holds Tryz.pinned (OpenSpec.ofChange replicaNilSpec)

/-- ITS FALSE NEIGHBOUR: 'it returns false'. Refute it at one input. -/
def replicaNilWrong : ChangeSpec := { name := "replicaNil", fn := fun _ => fun
  | [d] => { results := [.lit (.bool false)], args := [d] }
  | _ => none }
def ReplicaNilWrongFalsely : Prop := replicaNilRow.holds Tryz.pinned (OpenSpec.ofChange replicaNilWrong)

/-- 'vitrinelaw18.StoreNewer': WHATEVER THE INPUT: true; the input reads as it did. -/
def storeNewerSpec : ChangeSpec := { name := "storeNewer", fn := fun _ => fun
  | [d1, d2] => { results := [.lit (.bool true)], args := [d1, d2] }
  | _ => none }
def storeNewerRow : OpenClaim := { program := "ytomldponnggnfaagreat", sum := "1ada25053ac94ec47a9e18f1a476641a4c2e7708995c2c05401c97417f7aabc2", func := "vitrine/vitrinelaw18.StoreNewer", spec := "storeNewer", inPlace := ["internal/abi.NoEscape", "internal/bytealg.MakeNoZero"], unfollowed := true, recurses := true, apart := false }
def StoreNewerSaid : Prop := storeNewerRow.holds Tryz.pinned (OpenSpec.ofChange storeNewerSpec)

/-- ITS FALSE NEIGHBOUR: 'it returns false'. Refute it at one input. -/
def storeNewerWrong : ChangeSpec := { name := "storeNewer", fn := fun _ => fun
  | [d1, d2] => { results := [.lit (.bool false)], args := [d1, d2] }
  | _ => none }
def StoreNewerWrongFalsely : Prop := storeNewerRow.holds Tryz.pinned (OpenSpec.ofChange storeNewerWrong)

/-- 'vitrinelaw18.StoreNil': WHATEVER THE INPUT: true; the input reads as it did. -/
def storeNilSpec : ChangeSpec := { name := "storeNil", fn := fun _ => fun
  | [d] => { results := [.lit (.bool true)], args := [d] }
  | _ => none }
def storeNilRow : OpenClaim := { program := "ytomldponnggnfaagreat", sum := "1ada25053ac94ec47a9e18f1a476641a4c2e7708995c2c05401c97417f7aabc2", func := "vitrine/vitrinelaw18.StoreNil", spec := "storeNil", inPlace := ["internal/abi.NoEscape", "internal/bytealg.MakeNoZero"], unfollowed := true, recurses := true, apart := false }
def StoreNilSaid : Prop := storeNilRow.holds Tryz.pinned (OpenSpec.ofChange storeNilSpec)

/-- ITS FALSE NEIGHBOUR: 'it returns false'. Refute it at one input. -/
def storeNilWrong : ChangeSpec := { name := "storeNil", fn := fun _ => fun
  | [d] => { results := [.lit (.bool false)], args := [d] }
  | _ => none }
def StoreNilWrongFalsely : Prop := storeNilRow.holds Tryz.pinned (OpenSpec.ofChange storeNilWrong)

/-- 'vitrinelaw23.SessionNil': WHATEVER THE INPUT: true; the input reads as it did. -/
def sessionNilSpec : ChangeSpec := { name := "sessionNil", fn := fun _ => fun
  | [d] => { results := [.lit (.bool true)], args := [d] }
  | _ => none }
def sessionNilRow : OpenClaim := { program := "ytomldponnggnfaagreat", sum := "1ada25053ac94ec47a9e18f1a476641a4c2e7708995c2c05401c97417f7aabc2", func := "vitrine/vitrinelaw23.SessionNil", spec := "sessionNil", inPlace := ["internal/abi.NoEscape", "internal/bytealg.MakeNoZero", "slices.overlaps[vitrine/api.Entry]"], unfollowed := true, recurses := true, apart := false }
def SessionNilSaid : Prop := sessionNilRow.holds Tryz.pinned (OpenSpec.ofChange sessionNilSpec)

/-- ITS FALSE NEIGHBOUR: 'it returns false'. Refute it at one input. -/
def sessionNilWrong : ChangeSpec := { name := "sessionNil", fn := fun _ => fun
  | [d] => { results := [.lit (.bool false)], args := [d] }
  | _ => none }
def SessionNilWrongFalsely : Prop := sessionNilRow.holds Tryz.pinned (OpenSpec.ofChange sessionNilWrong)

/-- 'vitrinelaw24.ClusterCalm': WHATEVER THE INPUT: true; the input reads as it did. -/
def clusterCalmSpec : ChangeSpec := { name := "clusterCalm", fn := fun _ => fun
  | [d1, d2, d3] => { results := [.lit (.bool true)], args := [d1, d2, d3] }
  | _ => none }
def clusterCalmRow : OpenClaim := { program := "ytomldponnggnfaagreat", sum := "1ada25053ac94ec47a9e18f1a476641a4c2e7708995c2c05401c97417f7aabc2", func := "vitrine/vitrinelaw24.ClusterCalm", spec := "clusterCalm", inPlace := ["internal/abi.NoEscape", "internal/bytealg.MakeNoZero"], unfollowed := true, recurses := true, apart := false }
def ClusterCalmSaid : Prop := clusterCalmRow.holds Tryz.pinned (OpenSpec.ofChange clusterCalmSpec)

/-- ITS FALSE NEIGHBOUR: 'it returns false'. Refute it at one input. -/
def clusterCalmWrong : ChangeSpec := { name := "clusterCalm", fn := fun _ => fun
  | [d1, d2, d3] => { results := [.lit (.bool false)], args := [d1, d2, d3] }
  | _ => none }
def ClusterCalmWrongFalsely : Prop := clusterCalmRow.holds Tryz.pinned (OpenSpec.ofChange clusterCalmWrong)

/-- 'vitrinelaw24.ClusterNil': WHATEVER THE INPUT: true; the input reads as it did. -/
def clusterNilSpec : ChangeSpec := { name := "clusterNil", fn := fun _ => fun
  | [d] => { results := [.lit (.bool true)], args := [d] }
  | _ => none }
def clusterNilRow : OpenClaim := { program := "ytomldponnggnfaagreat", sum := "1ada25053ac94ec47a9e18f1a476641a4c2e7708995c2c05401c97417f7aabc2", func := "vitrine/vitrinelaw24.ClusterNil", spec := "clusterNil", inPlace := ["slices.overlaps[vitrine/api.Entry]", "internal/abi.NoEscape", "internal/bytealg.MakeNoZero"], unfollowed := true, recurses := true, apart := false }
def ClusterNilSaid : Prop := clusterNilRow.holds Tryz.pinned (OpenSpec.ofChange clusterNilSpec)

/-- ITS FALSE NEIGHBOUR: 'it returns false'. Refute it at one input. -/
def clusterNilWrong : ChangeSpec := { name := "clusterNil", fn := fun _ => fun
  | [d] => { results := [.lit (.bool false)], args := [d] }
  | _ => none }
def ClusterNilWrongFalsely : Prop := clusterNilRow.holds Tryz.pinned (OpenSpec.ofChange clusterNilWrong)

/-- 'vitrinelaw25.ArchiveNil': WHATEVER THE INPUT: true; the input reads as it did. -/
def archiveNilSpec : ChangeSpec := { name := "archiveNil", fn := fun _ => fun
  | [d1, d2] => { results := [.lit (.bool true)], args := [d1, d2] }
  | _ => none }
def archiveNilRow : OpenClaim := { program := "ytomldponnggnfaagreat", sum := "1ada25053ac94ec47a9e18f1a476641a4c2e7708995c2c05401c97417f7aabc2", func := "vitrine/vitrinelaw25.ArchiveNil", spec := "archiveNil", inPlace := ["internal/abi.NoEscape", "internal/bytealg.MakeNoZero", "slices.overlaps[vitrine/api.Entry]"], unfollowed := true, recurses := true, apart := false }
def ArchiveNilSaid : Prop := archiveNilRow.holds Tryz.pinned (OpenSpec.ofChange archiveNilSpec)

/-- ITS FALSE NEIGHBOUR: 'it returns false'. Refute it at one input. -/
def archiveNilWrong : ChangeSpec := { name := "archiveNil", fn := fun _ => fun
  | [d1, d2] => { results := [.lit (.bool false)], args := [d1, d2] }
  | _ => none }
def ArchiveNilWrongFalsely : Prop := archiveNilRow.holds Tryz.pinned (OpenSpec.ofChange archiveNilWrong)

/- THE SECOND FORM. 'bulk': how many values and letters a reading holds, each counted each time it is reached (what is shared counts as often as it is met; a slice's spare places count too). A statement '..UptoSaid' is the law's where the arguments, and the package variables that the reading takes, are together of bulk at most 1048576: NARROWER than '..Said'. Prove '..Said' where nothing that the law and all that it calls make is longer than what came in: it says more and counts as full. Else prove '..UptoSaid'. A law counts once. -/
mutual
def uptoBulk {H : Type} : DataW H → Nat
  | .lit (.string bytes) => bytes.length + 1
  | .lit _ => 1
  | .nil => 1
  | .ptr d => uptoBulk d + 1
  | .slice elems spare => uptoBulkAll elems + uptoBulkAll spare + 1
  | .agg parts => uptoBulkAll parts + 1
  | .iface _ d => uptoBulk d + 1
  | .map entries => uptoBulkEntries entries + 1
  | .held _ => 1
def uptoBulkAll {H : Type} : List (DataW H) → Nat
  | [] => 0
  | d :: r => uptoBulk d + uptoBulkAll r
def uptoBulkEntries {H : Type} : List (Lit × DataW H) → Nat
  | [] => 0
  | x :: r => uptoBulkEntry x + uptoBulkEntries r
def uptoBulkEntry {H : Type} : Lit × DataW H → Nat
  | (.string bytes, d) => bytes.length + uptoBulk d + 1
  | (_, d) => uptoBulk d + 1
 end
def uptoSmall : (H : Type) → List (DataW H) → Bool := fun _ ds => decide (uptoBulkAll ds ≤ 1048576)
def OpenSpec.upto (s : _root_.Go.ChangeSpec) : _root_.Go.OpenSpec := { _root_.Go.OpenSpec.ofChange s with cond := some uptoSmall }

/-- 'vitrinelaw21.ReplicaNil', WHERE WHAT IT READS IS OF BULK AT MOST 1048576: true; the input reads as it did. -/
def replicaNilUptoRow : OpenClaim := { program := "ytomldponnggnfaagreat", sum := "1ada25053ac94ec47a9e18f1a476641a4c2e7708995c2c05401c97417f7aabc2", func := "vitrine/vitrinelaw21.ReplicaNil", spec := "replicaNil", inPlace := ["internal/abi.NoEscape", "internal/bytealg.MakeNoZero"], unfollowed := true, recurses := true, apart := false, narrowed := true }
def ReplicaNilUptoSaid : Prop := replicaNilUptoRow.holds Tryz.pinned (OpenSpec.upto replicaNilSpec)

/-- 'vitrinelaw18.StoreNewer', WHERE WHAT IT READS IS OF BULK AT MOST 1048576: true; the input reads as it did. -/
def storeNewerUptoRow : OpenClaim := { program := "ytomldponnggnfaagreat", sum := "1ada25053ac94ec47a9e18f1a476641a4c2e7708995c2c05401c97417f7aabc2", func := "vitrine/vitrinelaw18.StoreNewer", spec := "storeNewer", inPlace := ["internal/abi.NoEscape", "internal/bytealg.MakeNoZero"], unfollowed := true, recurses := true, apart := false, narrowed := true }
def StoreNewerUptoSaid : Prop := storeNewerUptoRow.holds Tryz.pinned (OpenSpec.upto storeNewerSpec)

/-- 'vitrinelaw18.StoreNil', WHERE WHAT IT READS IS OF BULK AT MOST 1048576: true; the input reads as it did. -/
def storeNilUptoRow : OpenClaim := { program := "ytomldponnggnfaagreat", sum := "1ada25053ac94ec47a9e18f1a476641a4c2e7708995c2c05401c97417f7aabc2", func := "vitrine/vitrinelaw18.StoreNil", spec := "storeNil", inPlace := ["internal/abi.NoEscape", "internal/bytealg.MakeNoZero"], unfollowed := true, recurses := true, apart := false, narrowed := true }
def StoreNilUptoSaid : Prop := storeNilUptoRow.holds Tryz.pinned (OpenSpec.upto storeNilSpec)

/-- 'vitrinelaw23.SessionNil', WHERE WHAT IT READS IS OF BULK AT MOST 1048576: true; the input reads as it did. -/
def sessionNilUptoRow : OpenClaim := { program := "ytomldponnggnfaagreat", sum := "1ada25053ac94ec47a9e18f1a476641a4c2e7708995c2c05401c97417f7aabc2", func := "vitrine/vitrinelaw23.SessionNil", spec := "sessionNil", inPlace := ["internal/abi.NoEscape", "internal/bytealg.MakeNoZero", "slices.overlaps[vitrine/api.Entry]"], unfollowed := true, recurses := true, apart := false, narrowed := true }
def SessionNilUptoSaid : Prop := sessionNilUptoRow.holds Tryz.pinned (OpenSpec.upto sessionNilSpec)

/-- 'vitrinelaw24.ClusterCalm', WHERE WHAT IT READS IS OF BULK AT MOST 1048576: true; the input reads as it did. -/
def clusterCalmUptoRow : OpenClaim := { program := "ytomldponnggnfaagreat", sum := "1ada25053ac94ec47a9e18f1a476641a4c2e7708995c2c05401c97417f7aabc2", func := "vitrine/vitrinelaw24.ClusterCalm", spec := "clusterCalm", inPlace := ["internal/abi.NoEscape", "internal/bytealg.MakeNoZero"], unfollowed := true, recurses := true, apart := false, narrowed := true }
def ClusterCalmUptoSaid : Prop := clusterCalmUptoRow.holds Tryz.pinned (OpenSpec.upto clusterCalmSpec)

/-- 'vitrinelaw24.ClusterNil', WHERE WHAT IT READS IS OF BULK AT MOST 1048576: true; the input reads as it did. -/
def clusterNilUptoRow : OpenClaim := { program := "ytomldponnggnfaagreat", sum := "1ada25053ac94ec47a9e18f1a476641a4c2e7708995c2c05401c97417f7aabc2", func := "vitrine/vitrinelaw24.ClusterNil", spec := "clusterNil", inPlace := ["slices.overlaps[vitrine/api.Entry]", "internal/abi.NoEscape", "internal/bytealg.MakeNoZero"], unfollowed := true, recurses := true, apart := false, narrowed := true }
def ClusterNilUptoSaid : Prop := clusterNilUptoRow.holds Tryz.pinned (OpenSpec.upto clusterNilSpec)

/-- 'vitrinelaw25.ArchiveNil', WHERE WHAT IT READS IS OF BULK AT MOST 1048576: true; the input reads as it did. -/
def archiveNilUptoRow : OpenClaim := { program := "ytomldponnggnfaagreat", sum := "1ada25053ac94ec47a9e18f1a476641a4c2e7708995c2c05401c97417f7aabc2", func := "vitrine/vitrinelaw25.ArchiveNil", spec := "archiveNil", inPlace := ["internal/abi.NoEscape", "internal/bytealg.MakeNoZero", "slices.overlaps[vitrine/api.Entry]"], unfollowed := true, recurses := true, apart := false, narrowed := true }
def ArchiveNilUptoSaid : Prop := archiveNilUptoRow.holds Tryz.pinned (OpenSpec.upto archiveNilSpec)

end Rows
end Go.Proofs.YtomldponnggnfaaGreat
