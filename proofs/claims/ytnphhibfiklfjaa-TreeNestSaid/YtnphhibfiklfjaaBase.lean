/-
  Small words on worlds and trees.
-/
import Derived.Test.YtnphhibfiklfjaaCopy
set_option linter.unusedVariables false
set_option linter.unusedSimpArgs false
namespace Go.Proofs.Ytnphhibfiklfjaa
open Go.RowKit

/-- What was there stays. -/
theorem Keeps.heap {w w1 : World} {b : Nat} {o : Obj} (hk : Keeps (fun _ => False) w w1) (h : w.heap[b]? = some o) : w1.heap[b]? = some o := (hk.block _ (heap_lt h) (fun h => h)).trans h
theorem Tv.next {w w1 : World} {A : Nat → Prop} {k t c cp cl cc} (h : Tv w A k t c cp cl cc) (hk : Keeps (fun _ => False) w w1) : Tv w1 A k t c cp cl cc := h.keeps hk (fun _ _ h => h)
end Go.Proofs.Ytnphhibfiklfjaa
