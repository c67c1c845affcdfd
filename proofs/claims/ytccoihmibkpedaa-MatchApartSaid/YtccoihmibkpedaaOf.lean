/-
  espalierlaw24.of: its walk.
-/
import Derived.Test.YtccoihmibkpedaaPkC

import Derived.Deep.Cut

set_option linter.unusedVariables false

set_option linter.unusedSimpArgs false

namespace Go.Proofs.Ytccoihmibkpedaa

open Go.RowKit

set_option maxHeartbeats 400000 in
theorem of_any (k : ByteArray) (kp : Option Addr) (kl kc : Nat) (w : World) :
    Calls Try.prog 37 #[.string k, .slice kp kl kc] w fun e w' => e = .returned (tv k 0 e0 kp kl kc) ∧ Keeps (fun _ => False) w w' := by
  obtain ⟨W1, hW1⟩ : ∃ W1, W1 = w.alloc (.cells (four e0 0 e0 none 0 0) T) := ⟨_, rfl⟩
  have hK : Keeps (fun _ => False) w W1 := by rw [hW1]; exact (Keeps.refl _ w).alloc _
  have hb1 : W1.heap[w.heap.size]? = some (.cells (four e0 0 e0 none 0 0) T (0, 0)) := by rw [hW1]; exact heap_alloc_new _ _
  obtain ⟨r0, r1, r2, r3, f0, f1, f2, f3⟩ := box4 hb1
  have HW := Lib.hid hW1
  clear hW1
  go_enter Try.func37, Try.ntmps37
  go_upto_region 1 with fail
  rw [← HW.out]
  go_wp2_with fail
  have hbx : ((((W1.setCell ⟨w.heap.size, 0, none⟩ (.string k)).setCell ⟨w.heap.size, 1, none⟩ (.int .i64 0)).setCell ⟨w.heap.size, 2, none⟩ (.string e0)).setCell ⟨w.heap.size, 3, none⟩ (.slice kp kl kc)).heap[w.heap.size]? = some (.cells (four k 0 e0 kp kl kc) T (0, 0)) := by
    rw [heap_set (heap_set (heap_set (heap_set hb1 _ _) _ _) _ _) _ _]; rfl
  obtain ⟨q0, q1, q2, q3, _⟩ := box4 hbx
  refine bodyPost_ret (v := tv k 0 e0 kp kl kc) (by simp [results, Try.results37, go_sem, q0, q1, q2, q3]) rfl ?_
  exact ⟨rfl, hK.trans' (Keeps.four W1 _ _ _ _ _) (fun b hb hl => by omega)⟩
end Go.Proofs.Ytccoihmibkpedaa
