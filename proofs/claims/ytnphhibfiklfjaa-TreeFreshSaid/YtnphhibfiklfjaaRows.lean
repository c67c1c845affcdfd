/-
  NARROWER THAN 'FOR EVERY INPUT', by the rows' own cells (each row's printed sentence says how): TreePaths: loops · TreeNest: loops · TreeAll: loops · TreeGreat: loops · TreeFresh: loops.
  DERIVED. THE GIVEN ROWS OF THIS SEAT. 5 by the template 'for every input the law returns true; each argument reads behind the call as it read before'; 0 by the template 'total and deterministic' (their statements: YtnphhibfiklfjaaTotals.lean).
  GIVEN WITH THE SEED: the statements are not yours to turn. If you find one false, say at which input.
  Laid BY PROGRAM, IN A SANDBOX (cutbox-rows.mjs): the forced cells as the released guide's own fill.sh prints them over the translation fd8664657c4e6116… (all of the seat's roots in one cut). By AI agents, Wed Nov 11 2026. No macro, syntax, notation, axiom, sorry.
-/
import Derived.Test.YtnphhibfiklfjaaChecked
import GoSem.Claim
import GoSem.ClaimJoined
import GoSem.ClaimMapViews
import Derived.JoinedTies
import Derived.KernelRfl
namespace Go.Proofs.Ytnphhibfiklfjaa
/- THE CELL 'sum', in the pinned program and in every row, IS THE sha256 OF THE DUMP (.gsa) THAT YtnphhibfiklfjaaProg.lean LOADS. Nothing in Lean hashes anything: it is a label: what it is worth is what the hold of that sum in a sandbox is worth. -/
noncomputable def Try.pinned : Pinned := { name := "ytnphhibfiklfjaa", sum := "fd8664657c4e611652ea9d8bec2f8b5e0d5e23d65f841b0d702dc176c5ccf0da", checked := Try.checked }
namespace Rows
def none {H : Type} : Left H := { results := [], args := [] }

/-- 'espalierlaw4.TreePaths': WHATEVER THE INPUT: true; the input reads as it did. -/
def treePathsSpec : ChangeSpec := { name := "treePaths", fn := fun _ => fun
  | [d1, d2, d3] => { results := [.lit (.bool true)], args := [d1, d2, d3] }
  | _ => none }
def treePathsRow : OpenClaim := { program := "ytnphhibfiklfjaa", sum := "fd8664657c4e611652ea9d8bec2f8b5e0d5e23d65f841b0d702dc176c5ccf0da", func := "espalier/espalierlaw4.TreePaths", spec := "treePaths", inPlace := ["internal/bytealg.IndexByteString", "internal/bytealg.IndexString"], unfollowed := true, recurses := true, named := ["internal/bytealg.MaxLen"], loops := true, apart := false }
def TreePathsSaid : Prop := treePathsRow.holds Try.pinned (OpenSpec.ofChange treePathsSpec)

/-- ITS FALSE NEIGHBOUR: 'it returns false'. Refute it at one input. -/
def treePathsWrong : ChangeSpec := { name := "treePaths", fn := fun _ => fun
  | [d1, d2, d3] => { results := [.lit (.bool false)], args := [d1, d2, d3] }
  | _ => none }
def TreePathsWrongFalsely : Prop := treePathsRow.holds Try.pinned (OpenSpec.ofChange treePathsWrong)

/-- 'espalierlaw4.TreeNest': WHATEVER THE INPUT: true; the input reads as it did. -/
def treeNestSpec : ChangeSpec := { name := "treeNest", fn := fun _ => fun
  | [d1, d2] => { results := [.lit (.bool true)], args := [d1, d2] }
  | _ => none }
def treeNestRow : OpenClaim := { program := "ytnphhibfiklfjaa", sum := "fd8664657c4e611652ea9d8bec2f8b5e0d5e23d65f841b0d702dc176c5ccf0da", func := "espalier/espalierlaw4.TreeNest", spec := "treeNest", inPlace := ["internal/bytealg.IndexByteString", "internal/bytealg.IndexString"], unfollowed := true, recurses := true, named := ["internal/bytealg.MaxLen"], loops := true, apart := false }
def TreeNestSaid : Prop := treeNestRow.holds Try.pinned (OpenSpec.ofChange treeNestSpec)

/-- ITS FALSE NEIGHBOUR: 'it returns false'. Refute it at one input. -/
def treeNestWrong : ChangeSpec := { name := "treeNest", fn := fun _ => fun
  | [d1, d2] => { results := [.lit (.bool false)], args := [d1, d2] }
  | _ => none }
def TreeNestWrongFalsely : Prop := treeNestRow.holds Try.pinned (OpenSpec.ofChange treeNestWrong)

/-- 'espalierlaw4.TreeAll': WHATEVER THE INPUT: true; the input reads as it did. -/
def treeAllSpec : ChangeSpec := { name := "treeAll", fn := fun _ => fun
  | [d] => { results := [.lit (.bool true)], args := [d] }
  | _ => none }
def treeAllRow : OpenClaim := { program := "ytnphhibfiklfjaa", sum := "fd8664657c4e611652ea9d8bec2f8b5e0d5e23d65f841b0d702dc176c5ccf0da", func := "espalier/espalierlaw4.TreeAll", spec := "treeAll", inPlace := ["internal/bytealg.IndexByteString", "internal/bytealg.IndexString"], unfollowed := true, recurses := true, named := ["internal/bytealg.MaxLen"], loops := true, apart := false }
def TreeAllSaid : Prop := treeAllRow.holds Try.pinned (OpenSpec.ofChange treeAllSpec)

/-- ITS FALSE NEIGHBOUR: 'it returns false'. Refute it at one input. -/
def treeAllWrong : ChangeSpec := { name := "treeAll", fn := fun _ => fun
  | [d] => { results := [.lit (.bool false)], args := [d] }
  | _ => none }
def TreeAllWrongFalsely : Prop := treeAllRow.holds Try.pinned (OpenSpec.ofChange treeAllWrong)

/-- 'espalierlaw4.TreeGreat': WHATEVER THE INPUT: true; the input reads as it did. -/
def treeGreatSpec : ChangeSpec := { name := "treeGreat", fn := fun _ => fun
  | [d] => { results := [.lit (.bool true)], args := [d] }
  | _ => none }
def treeGreatRow : OpenClaim := { program := "ytnphhibfiklfjaa", sum := "fd8664657c4e611652ea9d8bec2f8b5e0d5e23d65f841b0d702dc176c5ccf0da", func := "espalier/espalierlaw4.TreeGreat", spec := "treeGreat", inPlace := ["internal/bytealg.IndexByteString", "internal/bytealg.IndexString"], unfollowed := true, recurses := true, named := ["internal/bytealg.MaxLen"], loops := true, apart := false }
def TreeGreatSaid : Prop := treeGreatRow.holds Try.pinned (OpenSpec.ofChange treeGreatSpec)

/-- ITS FALSE NEIGHBOUR: 'it returns false'. Refute it at one input. -/
def treeGreatWrong : ChangeSpec := { name := "treeGreat", fn := fun _ => fun
  | [d] => { results := [.lit (.bool false)], args := [d] }
  | _ => none }
def TreeGreatWrongFalsely : Prop := treeGreatRow.holds Try.pinned (OpenSpec.ofChange treeGreatWrong)

/-- 'espalierlaw4.TreeFresh': WHATEVER THE INPUT: true; the input reads as it did. -/
def treeFreshSpec : ChangeSpec := { name := "treeFresh", fn := fun _ => fun
  | [d] => { results := [.lit (.bool true)], args := [d] }
  | _ => none }
def treeFreshRow : OpenClaim := { program := "ytnphhibfiklfjaa", sum := "fd8664657c4e611652ea9d8bec2f8b5e0d5e23d65f841b0d702dc176c5ccf0da", func := "espalier/espalierlaw4.TreeFresh", spec := "treeFresh", inPlace := ["internal/bytealg.IndexByteString", "internal/bytealg.IndexString"], unfollowed := true, recurses := true, named := ["internal/bytealg.MaxLen"], loops := true, apart := false }
def TreeFreshSaid : Prop := treeFreshRow.holds Try.pinned (OpenSpec.ofChange treeFreshSpec)

/-- ITS FALSE NEIGHBOUR: 'it returns false'. Refute it at one input. -/
def treeFreshWrong : ChangeSpec := { name := "treeFresh", fn := fun _ => fun
  | [d] => { results := [.lit (.bool false)], args := [d] }
  | _ => none }
def TreeFreshWrongFalsely : Prop := treeFreshRow.holds Try.pinned (OpenSpec.ofChange treeFreshWrong)

/- THE SECOND FORM. 'bulk': how many values and letters a reading holds, each counted each time it is reached (what is shared counts as often as it is met; a slice's spare places count too). A statement '..UptoSaid' is the law's where the arguments, and the package variables that the reading takes, are together of bulk at most 1048576: NARROWER than '..Said'. Prove '..Said' where nothing that the law and all that it calls make is longer than what came in: it says more and counts as full. Else prove '..UptoSaid'. A law counts once. -/
mutual
def uptoBulk {H : Type} : DataW H → Nat
  | .lit (.string bytes) => bytes.length + 1
  | .lit _ => 1
  | .nil => 1
  | .ptr d => uptoBulk d + 1
  | .slice elems spare => uptoBulkAll elems + uptoBulkAll spare + 1
  | .agg parts => uptoBulkAll parts + 1
  | .iface _ d => uptoBulk d + 1
  | .map entries => uptoBulkEntries entries + 1
  | .held _ => 1
def uptoBulkAll {H : Type} : List (DataW H) → Nat
  | [] => 0
  | d :: r => uptoBulk d + uptoBulkAll r
def uptoBulkEntries {H : Type} : List (Lit × DataW H) → Nat
  | [] => 0
  | x :: r => uptoBulkEntry x + uptoBulkEntries r
def uptoBulkEntry {H : Type} : Lit × DataW H → Nat
  | (.string bytes, d) => bytes.length + uptoBulk d + 1
  | (_, d) => uptoBulk d + 1
 end
def uptoSmall : (H : Type) → List (DataW H) → Bool := fun _ ds => decide (uptoBulkAll ds ≤ 1048576)
def OpenSpec.upto (s : _root_.Go.ChangeSpec) : _root_.Go.OpenSpec := { _root_.Go.OpenSpec.ofChange s with cond := some uptoSmall }

/-- 'espalierlaw4.TreePaths', WHERE WHAT IT READS IS OF BULK AT MOST 1048576: true; the input reads as it did. -/
def treePathsUptoRow : OpenClaim := { program := "ytnphhibfiklfjaa", sum := "fd8664657c4e611652ea9d8bec2f8b5e0d5e23d65f841b0d702dc176c5ccf0da", func := "espalier/espalierlaw4.TreePaths", spec := "treePaths", inPlace := ["internal/bytealg.IndexByteString", "internal/bytealg.IndexString"], unfollowed := true, recurses := true, named := ["internal/bytealg.MaxLen"], loops := true, apart := false, narrowed := true }
def TreePathsUptoSaid : Prop := treePathsUptoRow.holds Try.pinned (OpenSpec.upto treePathsSpec)

/-- 'espalierlaw4.TreeNest', WHERE WHAT IT READS IS OF BULK AT MOST 1048576: true; the input reads as it did. -/
def treeNestUptoRow : OpenClaim := { program := "ytnphhibfiklfjaa", sum := "fd8664657c4e611652ea9d8bec2f8b5e0d5e23d65f841b0d702dc176c5ccf0da", func := "espalier/espalierlaw4.TreeNest", spec := "treeNest", inPlace := ["internal/bytealg.IndexByteString", "internal/bytealg.IndexString"], unfollowed := true, recurses := true, named := ["internal/bytealg.MaxLen"], loops := true, apart := false, narrowed := true }
def TreeNestUptoSaid : Prop := treeNestUptoRow.holds Try.pinned (OpenSpec.upto treeNestSpec)

/-- 'espalierlaw4.TreeAll', WHERE WHAT IT READS IS OF BULK AT MOST 1048576: true; the input reads as it did. -/
def treeAllUptoRow : OpenClaim := { program := "ytnphhibfiklfjaa", sum := "fd8664657c4e611652ea9d8bec2f8b5e0d5e23d65f841b0d702dc176c5ccf0da", func := "espalier/espalierlaw4.TreeAll", spec := "treeAll", inPlace := ["internal/bytealg.IndexByteString", "internal/bytealg.IndexString"], unfollowed := true, recurses := true, named := ["internal/bytealg.MaxLen"], loops := true, apart := false, narrowed := true }
def TreeAllUptoSaid : Prop := treeAllUptoRow.holds Try.pinned (OpenSpec.upto treeAllSpec)

/-- 'espalierlaw4.TreeGreat', WHERE WHAT IT READS IS OF BULK AT MOST 1048576: true; the input reads as it did. -/
def treeGreatUptoRow : OpenClaim := { program := "ytnphhibfiklfjaa", sum := "fd8664657c4e611652ea9d8bec2f8b5e0d5e23d65f841b0d702dc176c5ccf0da", func := "espalier/espalierlaw4.TreeGreat", spec := "treeGreat", inPlace := ["internal/bytealg.IndexByteString", "internal/bytealg.IndexString"], unfollowed := true, recurses := true, named := ["internal/bytealg.MaxLen"], loops := true, apart := false, narrowed := true }
def TreeGreatUptoSaid : Prop := treeGreatUptoRow.holds Try.pinned (OpenSpec.upto treeGreatSpec)

/-- 'espalierlaw4.TreeFresh', WHERE WHAT IT READS IS OF BULK AT MOST 1048576: true; the input reads as it did. -/
def treeFreshUptoRow : OpenClaim := { program := "ytnphhibfiklfjaa", sum := "fd8664657c4e611652ea9d8bec2f8b5e0d5e23d65f841b0d702dc176c5ccf0da", func := "espalier/espalierlaw4.TreeFresh", spec := "treeFresh", inPlace := ["internal/bytealg.IndexByteString", "internal/bytealg.IndexString"], unfollowed := true, recurses := true, named := ["internal/bytealg.MaxLen"], loops := true, apart := false, narrowed := true }
def TreeFreshUptoSaid : Prop := treeFreshUptoRow.holds Try.pinned (OpenSpec.upto treeFreshSpec)

end Rows
end Go.Proofs.Ytnphhibfiklfjaa
