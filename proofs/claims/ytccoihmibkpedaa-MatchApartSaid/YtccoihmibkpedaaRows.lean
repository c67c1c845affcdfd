/-
  NARROWER THAN 'FOR EVERY INPUT', by the rows' own cells (each row's printed sentence says how): MatchAll: loops · MatchFresh: loops · MatchApart: loops · MatchBack: loops · MatchOpen: loops · RuleRuns: loops.
  DERIVED. THE GIVEN ROWS OF THIS SEAT. 6 by the template 'for every input the law returns true; each argument reads behind the call as it read before'; 0 by the template 'total and deterministic' (their statements: YtccoihmibkpedaaTotals.lean).
  GIVEN WITH THE SEED: the statements are not yours to turn. If you find one false, say at which input.
  Laid BY PROGRAM, IN A SANDBOX (cutbox-rows.mjs): the forced cells as the released guide's own fill.sh prints them over the translation 896d129e74aea535… (all of the seat's roots in one cut). By AI agents, Wed Nov 11 2026. No macro, syntax, notation, axiom, sorry.
-/
import Derived.Test.YtccoihmibkpedaaChecked
import GoSem.Claim
import GoSem.ClaimJoined
import GoSem.ClaimMapViews
import Derived.JoinedTies
import Derived.KernelRfl
namespace Go.Proofs.Ytccoihmibkpedaa
/- THE CELL 'sum', in the pinned program and in every row, IS THE sha256 OF THE DUMP (.gsa) THAT YtccoihmibkpedaaProg.lean LOADS. Nothing in Lean hashes anything: it is a label: what it is worth is what the hold of that sum in a sandbox is worth. -/
noncomputable def Try.pinned : Pinned := { name := "ytccoihmibkpedaa", sum := "896d129e74aea5353aed767a70d1e64e6707499f3d3f917fc2f6b3bdf875a64d", checked := Try.checked }
namespace Rows
def none {H : Type} : Left H := { results := [], args := [] }

/-- 'espalierlaw24.MatchAll': WHATEVER THE INPUT: true; the input reads as it did. -/
def matchAllSpec : ChangeSpec := { name := "matchAll", fn := fun _ => fun
  | [d] => { results := [.lit (.bool true)], args := [d] }
  | _ => none }
def matchAllRow : OpenClaim := { program := "ytccoihmibkpedaa", sum := "896d129e74aea5353aed767a70d1e64e6707499f3d3f917fc2f6b3bdf875a64d", func := "espalier/espalierlaw24.MatchAll", spec := "matchAll", inPlace := ["internal/bytealg.IndexByteString", "internal/bytealg.IndexString"], unfollowed := true, recurses := true, named := ["internal/bytealg.MaxLen"], loops := true, apart := false }
def MatchAllSaid : Prop := matchAllRow.holds Try.pinned (OpenSpec.ofChange matchAllSpec)

/-- ITS FALSE NEIGHBOUR: 'it returns false'. Refute it at one input. -/
def matchAllWrong : ChangeSpec := { name := "matchAll", fn := fun _ => fun
  | [d] => { results := [.lit (.bool false)], args := [d] }
  | _ => none }
def MatchAllWrongFalsely : Prop := matchAllRow.holds Try.pinned (OpenSpec.ofChange matchAllWrong)

/-- 'espalierlaw24.MatchFresh': WHATEVER THE INPUT: true; the input reads as it did. -/
def matchFreshSpec : ChangeSpec := { name := "matchFresh", fn := fun _ => fun
  | [d] => { results := [.lit (.bool true)], args := [d] }
  | _ => none }
def matchFreshRow : OpenClaim := { program := "ytccoihmibkpedaa", sum := "896d129e74aea5353aed767a70d1e64e6707499f3d3f917fc2f6b3bdf875a64d", func := "espalier/espalierlaw24.MatchFresh", spec := "matchFresh", inPlace := ["internal/bytealg.IndexByteString", "internal/bytealg.IndexString"], unfollowed := true, recurses := true, named := ["internal/bytealg.MaxLen"], loops := true, apart := false }
def MatchFreshSaid : Prop := matchFreshRow.holds Try.pinned (OpenSpec.ofChange matchFreshSpec)

/-- ITS FALSE NEIGHBOUR: 'it returns false'. Refute it at one input. -/
def matchFreshWrong : ChangeSpec := { name := "matchFresh", fn := fun _ => fun
  | [d] => { results := [.lit (.bool false)], args := [d] }
  | _ => none }
def MatchFreshWrongFalsely : Prop := matchFreshRow.holds Try.pinned (OpenSpec.ofChange matchFreshWrong)

/-- 'espalierlaw24.MatchApart': WHATEVER THE INPUT: true; the input reads as it did. -/
def matchApartSpec : ChangeSpec := { name := "matchApart", fn := fun _ => fun
  | [d1, d2, d3] => { results := [.lit (.bool true)], args := [d1, d2, d3] }
  | _ => none }
def matchApartRow : OpenClaim := { program := "ytccoihmibkpedaa", sum := "896d129e74aea5353aed767a70d1e64e6707499f3d3f917fc2f6b3bdf875a64d", func := "espalier/espalierlaw24.MatchApart", spec := "matchApart", inPlace := ["internal/bytealg.IndexByteString", "internal/bytealg.IndexString"], unfollowed := true, recurses := true, named := ["internal/bytealg.MaxLen"], loops := true, apart := false }
def MatchApartSaid : Prop := matchApartRow.holds Try.pinned (OpenSpec.ofChange matchApartSpec)

/-- ITS FALSE NEIGHBOUR: 'it returns false'. Refute it at one input. -/
def matchApartWrong : ChangeSpec := { name := "matchApart", fn := fun _ => fun
  | [d1, d2, d3] => { results := [.lit (.bool false)], args := [d1, d2, d3] }
  | _ => none }
def MatchApartWrongFalsely : Prop := matchApartRow.holds Try.pinned (OpenSpec.ofChange matchApartWrong)

/-- 'espalierlaw24.MatchBack': WHATEVER THE INPUT: true; the input reads as it did. -/
def matchBackSpec : ChangeSpec := { name := "matchBack", fn := fun _ => fun
  | [d1, d2, d3] => { results := [.lit (.bool true)], args := [d1, d2, d3] }
  | _ => none }
def matchBackRow : OpenClaim := { program := "ytccoihmibkpedaa", sum := "896d129e74aea5353aed767a70d1e64e6707499f3d3f917fc2f6b3bdf875a64d", func := "espalier/espalierlaw24.MatchBack", spec := "matchBack", inPlace := ["internal/bytealg.IndexByteString", "internal/bytealg.IndexString"], unfollowed := true, recurses := true, named := ["internal/bytealg.MaxLen"], loops := true, apart := false }
def MatchBackSaid : Prop := matchBackRow.holds Try.pinned (OpenSpec.ofChange matchBackSpec)

/-- ITS FALSE NEIGHBOUR: 'it returns false'. Refute it at one input. -/
def matchBackWrong : ChangeSpec := { name := "matchBack", fn := fun _ => fun
  | [d1, d2, d3] => { results := [.lit (.bool false)], args := [d1, d2, d3] }
  | _ => none }
def MatchBackWrongFalsely : Prop := matchBackRow.holds Try.pinned (OpenSpec.ofChange matchBackWrong)

/-- 'espalierlaw24.MatchOpen': WHATEVER THE INPUT: true; the input reads as it did. -/
def matchOpenSpec : ChangeSpec := { name := "matchOpen", fn := fun _ => fun
  | [d1, d2, d3, d4] => { results := [.lit (.bool true)], args := [d1, d2, d3, d4] }
  | _ => none }
def matchOpenRow : OpenClaim := { program := "ytccoihmibkpedaa", sum := "896d129e74aea5353aed767a70d1e64e6707499f3d3f917fc2f6b3bdf875a64d", func := "espalier/espalierlaw24.MatchOpen", spec := "matchOpen", inPlace := ["internal/bytealg.IndexByteString", "internal/bytealg.IndexString"], unfollowed := true, recurses := true, named := ["internal/bytealg.MaxLen"], loops := true, apart := false }
def MatchOpenSaid : Prop := matchOpenRow.holds Try.pinned (OpenSpec.ofChange matchOpenSpec)

/-- ITS FALSE NEIGHBOUR: 'it returns false'. Refute it at one input. -/
def matchOpenWrong : ChangeSpec := { name := "matchOpen", fn := fun _ => fun
  | [d1, d2, d3, d4] => { results := [.lit (.bool false)], args := [d1, d2, d3, d4] }
  | _ => none }
def MatchOpenWrongFalsely : Prop := matchOpenRow.holds Try.pinned (OpenSpec.ofChange matchOpenWrong)

/-- 'espalierlaw25.RuleRuns': WHATEVER THE INPUT: true; the input reads as it did. -/
def ruleRunsSpec : ChangeSpec := { name := "ruleRuns", fn := fun _ => fun
  | [d] => { results := [.lit (.bool true)], args := [d] }
  | _ => none }
def ruleRunsRow : OpenClaim := { program := "ytccoihmibkpedaa", sum := "896d129e74aea5353aed767a70d1e64e6707499f3d3f917fc2f6b3bdf875a64d", func := "espalier/espalierlaw25.RuleRuns", spec := "ruleRuns", inPlace := ["internal/bytealg.IndexByteString", "internal/bytealg.IndexString"], unfollowed := true, recurses := true, named := ["internal/bytealg.MaxLen"], loops := true, apart := false }
def RuleRunsSaid : Prop := ruleRunsRow.holds Try.pinned (OpenSpec.ofChange ruleRunsSpec)

/-- ITS FALSE NEIGHBOUR: 'it returns false'. Refute it at one input. -/
def ruleRunsWrong : ChangeSpec := { name := "ruleRuns", fn := fun _ => fun
  | [d] => { results := [.lit (.bool false)], args := [d] }
  | _ => none }
def RuleRunsWrongFalsely : Prop := ruleRunsRow.holds Try.pinned (OpenSpec.ofChange ruleRunsWrong)

/- THE SECOND FORM. 'bulk': how many values and letters a reading holds, each counted each time it is reached (what is shared counts as often as it is met; a slice's spare places count too). A statement '..UptoSaid' is the law's where the arguments, and the package variables that the reading takes, are together of bulk at most 1048576: NARROWER than '..Said'. Prove '..Said' where nothing that the law and all that it calls make is longer than what came in: it says more and counts as full. Else prove '..UptoSaid'. A law counts once. -/
mutual
def uptoBulk {H : Type} : DataW H → Nat
  | .lit (.string bytes) => bytes.length + 1
  | .lit _ => 1
  | .nil => 1
  | .ptr d => uptoBulk d + 1
  | .slice elems spare => uptoBulkAll elems + uptoBulkAll spare + 1
  | .agg parts => uptoBulkAll parts + 1
  | .iface _ d => uptoBulk d + 1
  | .map entries => uptoBulkEntries entries + 1
  | .held _ => 1
def uptoBulkAll {H : Type} : List (DataW H) → Nat
  | [] => 0
  | d :: r => uptoBulk d + uptoBulkAll r
def uptoBulkEntries {H : Type} : List (Lit × DataW H) → Nat
  | [] => 0
  | x :: r => uptoBulkEntry x + uptoBulkEntries r
def uptoBulkEntry {H : Type} : Lit × DataW H → Nat
  | (.string bytes, d) => bytes.length + uptoBulk d + 1
  | (_, d) => uptoBulk d + 1
 end
def uptoSmall : (H : Type) → List (DataW H) → Bool := fun _ ds => decide (uptoBulkAll ds ≤ 1048576)
def OpenSpec.upto (s : _root_.Go.ChangeSpec) : _root_.Go.OpenSpec := { _root_.Go.OpenSpec.ofChange s with cond := some uptoSmall }

/-- 'espalierlaw24.MatchAll', WHERE WHAT IT READS IS OF BULK AT MOST 1048576: true; the input reads as it did. -/
def matchAllUptoRow : OpenClaim := { program := "ytccoihmibkpedaa", sum := "896d129e74aea5353aed767a70d1e64e6707499f3d3f917fc2f6b3bdf875a64d", func := "espalier/espalierlaw24.MatchAll", spec := "matchAll", inPlace := ["internal/bytealg.IndexByteString", "internal/bytealg.IndexString"], unfollowed := true, recurses := true, named := ["internal/bytealg.MaxLen"], loops := true, apart := false, narrowed := true }
def MatchAllUptoSaid : Prop := matchAllUptoRow.holds Try.pinned (OpenSpec.upto matchAllSpec)

/-- 'espalierlaw24.MatchFresh', WHERE WHAT IT READS IS OF BULK AT MOST 1048576: true; the input reads as it did. -/
def matchFreshUptoRow : OpenClaim := { program := "ytccoihmibkpedaa", sum := "896d129e74aea5353aed767a70d1e64e6707499f3d3f917fc2f6b3bdf875a64d", func := "espalier/espalierlaw24.MatchFresh", spec := "matchFresh", inPlace := ["internal/bytealg.IndexByteString", "internal/bytealg.IndexString"], unfollowed := true, recurses := true, named := ["internal/bytealg.MaxLen"], loops := true, apart := false, narrowed := true }
def MatchFreshUptoSaid : Prop := matchFreshUptoRow.holds Try.pinned (OpenSpec.upto matchFreshSpec)

/-- 'espalierlaw24.MatchApart', WHERE WHAT IT READS IS OF BULK AT MOST 1048576: true; the input reads as it did. -/
def matchApartUptoRow : OpenClaim := { program := "ytccoihmibkpedaa", sum := "896d129e74aea5353aed767a70d1e64e6707499f3d3f917fc2f6b3bdf875a64d", func := "espalier/espalierlaw24.MatchApart", spec := "matchApart", inPlace := ["internal/bytealg.IndexByteString", "internal/bytealg.IndexString"], unfollowed := true, recurses := true, named := ["internal/bytealg.MaxLen"], loops := true, apart := false, narrowed := true }
def MatchApartUptoSaid : Prop := matchApartUptoRow.holds Try.pinned (OpenSpec.upto matchApartSpec)

/-- 'espalierlaw24.MatchBack', WHERE WHAT IT READS IS OF BULK AT MOST 1048576: true; the input reads as it did. -/
def matchBackUptoRow : OpenClaim := { program := "ytccoihmibkpedaa", sum := "896d129e74aea5353aed767a70d1e64e6707499f3d3f917fc2f6b3bdf875a64d", func := "espalier/espalierlaw24.MatchBack", spec := "matchBack", inPlace := ["internal/bytealg.IndexByteString", "internal/bytealg.IndexString"], unfollowed := true, recurses := true, named := ["internal/bytealg.MaxLen"], loops := true, apart := false, narrowed := true }
def MatchBackUptoSaid : Prop := matchBackUptoRow.holds Try.pinned (OpenSpec.upto matchBackSpec)

/-- 'espalierlaw24.MatchOpen', WHERE WHAT IT READS IS OF BULK AT MOST 1048576: true; the input reads as it did. -/
def matchOpenUptoRow : OpenClaim := { program := "ytccoihmibkpedaa", sum := "896d129e74aea5353aed767a70d1e64e6707499f3d3f917fc2f6b3bdf875a64d", func := "espalier/espalierlaw24.MatchOpen", spec := "matchOpen", inPlace := ["internal/bytealg.IndexByteString", "internal/bytealg.IndexString"], unfollowed := true, recurses := true, named := ["internal/bytealg.MaxLen"], loops := true, apart := false, narrowed := true }
def MatchOpenUptoSaid : Prop := matchOpenUptoRow.holds Try.pinned (OpenSpec.upto matchOpenSpec)

/-- 'espalierlaw25.RuleRuns', WHERE WHAT IT READS IS OF BULK AT MOST 1048576: true; the input reads as it did. -/
def ruleRunsUptoRow : OpenClaim := { program := "ytccoihmibkpedaa", sum := "896d129e74aea5353aed767a70d1e64e6707499f3d3f917fc2f6b3bdf875a64d", func := "espalier/espalierlaw25.RuleRuns", spec := "ruleRuns", inPlace := ["internal/bytealg.IndexByteString", "internal/bytealg.IndexString"], unfollowed := true, recurses := true, named := ["internal/bytealg.MaxLen"], loops := true, apart := false, narrowed := true }
def RuleRunsUptoSaid : Prop := ruleRunsUptoRow.holds Try.pinned (OpenSpec.upto ruleRunsSpec)

end Rows
end Go.Proofs.Ytccoihmibkpedaa
