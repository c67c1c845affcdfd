/-
  espalierlaw4.plays: its walk.
-/
import Derived.Test.YtnphhibfiklfjaaPlayE
import Derived.Test.YtnphhibfiklfjaaRPut2
import Derived.Test.YtnphhibfiklfjaaRKinds
import Derived.Test.YtnphhibfiklfjaaPut
import Derived.Test.YtnphhibfiklfjaaBegunP
import Derived.Deep.RegionHeld3
set_option linter.unusedVariables false
set_option linter.unusedSimpArgs false
namespace Go.Proofs.Ytnphhibfiklfjaa
open Go.RowKit Go.Shelf Go.Sort

/-- An operation in its box, its trees and its path. -/
structure OB (w W : World) (kd : Int) (x u : Nd) (path : List Int) (cp up : Option Addr) (cl cc ul uc : Nat) (pp : Option Addr) (pl pc : Nat) (st : Int) : Prop where
  box : W.heap[w.heap.size]? = some (.cells (opc kd x u cp up cl cc ul uc pp pl pc st) OT (0, 0))
  keeps : Keeps (fun _ => False) w W
  tx : Tv W (fun b => b < w.heap.size) x.k x.t x.c cp cl cc
  tu : Tv W (fun b => b < w.heap.size) u.k u.t u.c up ul uc
  tp : Ints W (fun b => b < w.heap.size) path pp pl
section
variable {w W W1 : World} {kd : Int} {x u : Nd} {path : List Int} {cp up : Option Addr} {cl cc ul uc : Nat} {pp : Option Addr} {pl pc : Nat} {st : Int}
theorem OB.next (h : OB w W kd x u path cp up cl cc ul uc pp pl pc st) (hk : Keeps (fun _ => False) W W1) : OB w W1 kd x u path cp up cl cc ul uc pp pl pc st :=
  ⟨hk.heap h.box, h.keeps.trans hk, h.tx.next hk, h.tu.next hk, h.tp.keeps hk (fun _ _ h => h)⟩
theorem OB.start {A A' A'' : Nat → Prop} (h : Tv w A x.k x.t x.c cp cl cc) (h' : Tv w A' u.k u.t u.c up ul uc) (hp : Ints w A'' path pp pl) : OB w (w.alloc (.cells (opc kd x u cp up cl cc ul uc pp pl pc st) OT)) kd x u path cp up cl cc ul uc pp pl pc st := by
  have hk : Keeps (fun _ => False) w (w.alloc (.cells (opc kd x u cp up cl cc ul uc pp pl pc st) OT)) := (Keeps.refl _ w).alloc _
  exact ⟨heap_alloc_new _ _, hk, h.top.next hk, h'.top.next hk, hp.top.keeps hk (fun _ _ h => h)⟩
end
/-- What a round of the law takes. -/
structure OpIn (w : World) (x u : Nd) (path : List Int) (cp up : Option Addr) (cl cc ul uc : Nat) (pp : Option Addr) (pl pc : Nat) (st : Int) : Prop where
  tx : ∃ A, Tv w A x.k x.t x.c cp cl cc
  tu : ∃ A, Tv w A u.k u.t u.c up ul uc
  tp : ∃ A, Ints w A path pp pl
  pc1 : pl ≤ pc
  pc2 : pc ≤ 9223372036854775807
  wf : (Lit.int .i64 st).wf = true
theorem OpIn.start {w : World} {kd : Int} {x u : Nd} {path : List Int} {cp up : Option Addr} {cl cc ul uc : Nat} {pp : Option Addr} {pl pc : Nat} {st : Int} (h : OpIn w x u path cp up cl cc ul uc pp pl pc st) : OB w (w.alloc (.cells (opc kd x u cp up cl cc ul uc pp pl pc st) OT)) kd x u path cp up cl cc ul uc pp pl pc st := by
  obtain ⟨A, h1⟩ := h.tx
  obtain ⟨A', h2⟩ := h.tu
  obtain ⟨A'', h3⟩ := h.tp
  exact OB.start h1 h2 h3

set_option maxRecDepth 100000 in
set_option maxHeartbeats 3200000 in
theorem plays1 (x u : Nd) (path : List Int) (cp up : Option Addr) (cl cc ul uc : Nat) (pp : Option Addr) (pl pc : Nat) (st : Int) (w : World) (h : OpIn w x u path cp up cl cc ul uc pp pl pc st) :
    Calls Try.prog 22 #[opv 1 x u cp up cl cc ul uc pp pl pc st] w fun e w' => e = .returned (.bool true) ∧ Keeps (fun _ => False) w w' := by
  obtain ⟨w1, hw1⟩ : ∃ w1, w1 = w.alloc (.cells (opc 1 x u cp up cl cc ul uc pp pl pc st) OT) := ⟨_, rfl⟩
  have hB : OB w w1 1 x u path cp up cl cc ul uc pp pl pc st := by rw [hw1]; exact h.start
  have HW := Lib.hid hw1
  obtain ⟨⟨o0, o1, o2⟩, ⟨a0, a1, a2, a3⟩, _⟩ := boxO hB.box
  have hM1 : Hid (∀ W, Keeps (fun _ => False) w1 W → Calls Try.prog 25 #[tv x.k x.n x.t cp cl cc] W fun e w' => e = .returned (.int .i64 (mayF x)) ∧ Keeps (fun _ => False) W w') := Lib.hid fun W hk => May_any x cp cl cc _ W (hB.next hk).tx
  have hM2 : Hid (∀ W, Keeps (fun _ => False) w1 W → Calls Try.prog 47 #[tv x.k x.n x.t cp cl cc] W fun e w' => e = .returned (.int .i64 (mayF x)) ∧ Keeps (fun _ => False) W w') := Lib.hid fun W hk => rMay_any x cp cl cc _ W (hB.next hk).tx
  obtain ⟨v, hv⟩ : ∃ v, mayF x = v := ⟨_, rfl⟩
  rw [hv] at hM1 hM2
  have HB := Lib.hid hB
  clear hw1 h hB hv
  go_enter Try.func22, Try.ntmps22
  go_upto_region 1 with fail
  rw [← HW.out]
  go_wp2_with fail
  have ka0 := fun d os => cell_regrown a0 d os
  have ka1 := fun d os => cell_regrown a1 d os
  have ka2 := fun d os => cell_regrown a2 d os
  have ka3 := fun d os => cell_regrown a3 d os
  refine wp_region_quiet_below (by kernel_rfl) (by kernel_rfl) ?_
  repeat (refine wpQuiet_step (fun K hK => ?_); go_simp; first | (refine hK _ ?_; clear hK K) | (apply Exists.intro; refine ⟨fun _ => ?_, hK _ ?_⟩; (first | exact quiet_call0 hM1.out | exact quiet_call0 hM2.out); clear hK K))
  refine wpQuiet_nil ?_
  intro W8 hk8
  have hk8 := keeps_regrown hk8
  clear ka0 ka1 ka2 ka3 a0 a1 a2 a3 o0 o1 o2
  go_wp2_with fail
  go_ret
  exact ⟨by simp, HB.out.keeps.trans hk8⟩

set_option maxRecDepth 100000 in
set_option maxHeartbeats 3200000 in
theorem plays2 (x u : Nd) (path : List Int) (cp up : Option Addr) (cl cc ul uc : Nat) (pp : Option Addr) (pl pc : Nat) (st : Int) (w : World) (h : OpIn w x u path cp up cl cc ul uc pp pl pc st) :
    Calls Try.prog 22 #[opv 2 x u cp up cl cc ul uc pp pl pc st] w fun e w' => e = .returned (.bool true) ∧ Keeps (fun _ => False) w w' := by
  obtain ⟨w1, hw1⟩ : ∃ w1, w1 = w.alloc (.cells (opc 2 x u cp up cl cc ul uc pp pl pc st) OT) := ⟨_, rfl⟩
  have hB : OB w w1 2 x u path cp up cl cc ul uc pp pl pc st := by rw [hw1]; exact h.start
  have HW := Lib.hid hw1
  have hpc1 := h.pc1
  have hpc2 := h.pc2
  have hwf := h.wf
  have HB := Lib.hid hB
  obtain ⟨⟨o0, o1, o2⟩, ⟨a0, a1, a2, a3⟩, ⟨b0, b1, b2, b3⟩⟩ := boxO hB.box
  obtain ⟨⟨n1, n2, n3⟩, hn⟩ : ∃ r, sizeR x.k x.t x.c = r := ⟨_, rfl⟩
  have hM1 : Hid (∀ W, Keeps (fun _ => False) w1 W → Calls Try.prog 9 #[tv x.k x.n x.t cp cl cc] W fun e w' => e = .returned (.tuple #[.int .i64 n1, .int .i64 n2, .int .i64 n3]) ∧ Keeps (fun _ => False) W w') := Lib.hid fun W hk => by
    have := Size_any x.k x.n x.t x.c cp cl cc _ W (hB.next hk).tx
    rwa [hn] at this
  have hM2 : Hid (∀ W, Keeps (fun _ => False) w1 W → Calls Try.prog 48 #[tv x.k x.n x.t cp cl cc] W fun e w' => e = .returned (.tuple #[.int .i64 n1, .int .i64 n2, .int .i64 n3]) ∧ Keeps (fun _ => False) W w') := Lib.hid fun W hk => by
    have := rSize_any x.k x.n x.t x.c cp cl cc _ W (hB.next hk).tx
    rwa [hn] at this
  clear hw1 h hB hn hpc1 hpc2 hwf
  go_enter Try.func22, Try.ntmps22
  go_upto_region 1 with fail
  rw [← HW.out]
  go_wp2_with fail
  refine (hM1.out _ (Keeps.refl _ _)).mono ?_
  clear a0 a1 a2 a3 b0 b1 b2 b3 o0 o1 o2
  rintro e W ⟨rfl, hk⟩
  obtain ⟨⟨o0, o1, o2⟩, ⟨a0, a1, a2, a3⟩, ⟨b0, b1, b2, b3⟩⟩ := boxO (HB.out.next hk).box
  go_wp2_with fail
  refine (hM2.out _ hk).mono ?_
  clear a0 a1 a2 a3 b0 b1 b2 b3 o0 o1 o2
  rintro e W2 ⟨rfl, hk2⟩
  go_wp2_with fail
  go_ret
  exact ⟨rfl, (HB.out.keeps.trans hk).trans hk2⟩
set_option maxRecDepth 100000 in
set_option maxHeartbeats 3200000 in
theorem plays3 (x u : Nd) (path : List Int) (cp up : Option Addr) (cl cc ul uc : Nat) (pp : Option Addr) (pl pc : Nat) (st : Int) (w : World) (h : OpIn w x u path cp up cl cc ul uc pp pl pc st) :
    Calls Try.prog 22 #[opv 3 x u cp up cl cc ul uc pp pl pc st] w fun e w' => e = .returned (.bool true) ∧ Keeps (fun _ => False) w w' := by
  obtain ⟨w1, hw1⟩ : ∃ w1, w1 = w.alloc (.cells (opc 3 x u cp up cl cc ul uc pp pl pc st) OT) := ⟨_, rfl⟩
  have hB : OB w w1 3 x u path cp up cl cc ul uc pp pl pc st := by rw [hw1]; exact h.start
  have HW := Lib.hid hw1
  have hpc1 := h.pc1
  have hpc2 := h.pc2
  have hwf := h.wf
  have HB := Lib.hid hB
  obtain ⟨⟨o0, o1, o2⟩, ⟨a0, a1, a2, a3⟩, ⟨b0, b1, b2, b3⟩⟩ := boxO hB.box
  have hM1 : Hid (∀ W, Keeps (fun _ => False) w1 W → Calls Try.prog 12 #[tv x.k x.n x.t cp cl cc, tv u.k u.n u.t up ul uc] W fun e w' => e = .returned (.bool (sameF x u)) ∧ Keeps (fun _ => False) W w') := Lib.hid fun W hk => by
    have := Same_any x.k u.k x.n u.n x.t u.t x.c u.c cp up cl cc ul uc _ _ W (hB.next hk).tx (hB.next hk).tu
    rwa [big_small x, big_small u, Bool.not_not, Bool.not_not] at this
  have hM2 : Hid (∀ W, Keeps (fun _ => False) w1 W → Calls Try.prog 49 #[tv x.k x.n x.t cp cl cc, tv u.k u.n u.t up ul uc] W fun e w' => e = .returned (.bool (sameF x u)) ∧ Keeps (fun _ => False) W w') := Lib.hid fun W hk => rSame_any x u cp up cl cc ul uc _ _ W (hB.next hk).tx (hB.next hk).tu
  obtain ⟨v, hv⟩ : ∃ v, sameF x u = v := ⟨_, rfl⟩
  rw [hv] at hM1 hM2
  clear hw1 h hB hv hpc1 hpc2 hwf
  go_enter Try.func22, Try.ntmps22
  go_upto_region 1 with fail
  rw [← HW.out]
  go_wp2_with fail
  have ka0 := fun d os => cell_regrown a0 d os
  have ka1 := fun d os => cell_regrown a1 d os
  have ka2 := fun d os => cell_regrown a2 d os
  have ka3 := fun d os => cell_regrown a3 d os
  have kb0 := fun d os => cell_regrown b0 d os
  have kb1 := fun d os => cell_regrown b1 d os
  have kb2 := fun d os => cell_regrown b2 d os
  have kb3 := fun d os => cell_regrown b3 d os
  refine wp_region_quiet_below (by kernel_rfl) (by kernel_rfl) ?_
  repeat (refine wpQuiet_step (fun K hK => ?_); go_simp; first | (refine hK _ ?_; clear hK K) | (apply Exists.intro; refine ⟨fun _ => ?_, hK _ ?_⟩; (first | exact quiet_call0 hM1.out | exact quiet_call0 hM2.out); clear hK K))
  refine wpQuiet_nil ?_
  intro W8 hk8
  have hk8 := keeps_regrown hk8
  clear ka0 ka1 ka2 ka3 kb0 kb1 kb2 kb3 a0 a1 a2 a3 b0 b1 b2 b3 o0 o1 o2
  go_wp2_with fail
  go_ret
  exact ⟨by simp, HB.out.keeps.trans hk8⟩
set_option maxRecDepth 100000 in
set_option maxHeartbeats 3200000 in
theorem plays4 (x u : Nd) (path : List Int) (cp up : Option Addr) (cl cc ul uc : Nat) (pp : Option Addr) (pl pc : Nat) (st : Int) (w : World) (h : OpIn w x u path cp up cl cc ul uc pp pl pc st) :
    Calls Try.prog 22 #[opv 4 x u cp up cl cc ul uc pp pl pc st] w fun e w' => e = .returned (.bool true) ∧ Keeps (fun _ => False) w w' := by
  obtain ⟨w1, hw1⟩ : ∃ w1, w1 = w.alloc (.cells (opc 4 x u cp up cl cc ul uc pp pl pc st) OT) := ⟨_, rfl⟩
  have hB : OB w w1 4 x u path cp up cl cc ul uc pp pl pc st := by rw [hw1]; exact h.start
  have HW := Lib.hid hw1
  have hpc1 := h.pc1
  have hpc2 := h.pc2
  have hwf := h.wf
  have HB := Lib.hid hB
  obtain ⟨⟨o0, o1, o2⟩, ⟨a0, a1, a2, a3⟩, ⟨b0, b1, b2, b3⟩⟩ := boxO hB.box
  have hM1 : Hid (∀ W, Keeps (fun _ => False) w1 W → Calls Try.prog 24 #[tv x.k x.n x.t cp cl cc] W (TreeRes W (copyF x))) := Lib.hid fun W hk => Copy_any x cp cl cc _ W (hB.next hk).tx
  have hM2 : Hid (∀ W, Keeps (fun _ => False) w1 W → Calls Try.prog 50 #[tv x.k x.n x.t cp cl cc] W (TreeRes W (copyF x))) := Lib.hid fun W hk => rCopy_any x cp cl cc _ W (hB.next hk).tx
  obtain ⟨⟨y, nn⟩, hy⟩ : ∃ r, copyF x = r := ⟨_, rfl⟩
  rw [hy] at hM1 hM2
  clear hw1 h hB hy hpc1 hpc2 hwf
  go_enter Try.func22, Try.ntmps22
  go_upto_region 1 with fail
  rw [← HW.out]
  go_wp2_with fail
  refine (hM1.out _ (Keeps.refl _ _)).mono ?_
  clear a0 a1 a2 a3 b0 b1 b2 b3 o0 o1 o2
  rintro e W hr
  obtain ⟨cp1, cl1, cc1, A1, rfl, ht1, _, hk1⟩ := TreeRes.out2 hr
  obtain ⟨W2, hW2⟩ : ∃ W2, W2 = W.alloc (.cells (four y.k y.n y.t cp1 cl1 cc1) T) := ⟨_, rfl⟩
  obtain ⟨q1, hq1⟩ : ∃ q, q = W.heap.size := ⟨_, rfl⟩
  have hkw : Keeps (fun _ => False) W W2 := by rw [hW2]; exact (Keeps.refl _ _).alloc _
  have hx1 : W2.heap[q1]? = some (.cells (four y.k y.n y.t cp1 cl1 cc1) T (0, 0)) := by rw [hW2, hq1]; exact heap_alloc_new _ _
  have hk2 := hk1.trans hkw
  have ht1 := ht1.next hkw
  have HW2 := Lib.hid hW2
  have HQ1 := Lib.hid hq1
  have HX1 := Lib.hid hx1
  have HT1 := Lib.hid ht1
  obtain ⟨⟨o0, o1, o2⟩, ⟨a0, a1, a2, a3⟩, ⟨b0, b1, b2, b3⟩⟩ := boxO (HB.out.next hk2).box
  clear hr hW2 hq1 hkw hk1 hx1 ht1
  go_upto_region 12 with fail
  rw [← HW2.out, ← HQ1.out]
  go_wp2_with fail
  refine (hM2.out _ hk2).mono ?_
  clear a0 a1 a2 a3 b0 b1 b2 b3 o0 o1 o2
  rintro e W3 hr
  obtain ⟨cp2, cl2, cc2, A2, rfl, ht2, _, hk3⟩ := TreeRes.out2 hr
  obtain ⟨W4, hW4⟩ : ∃ W4, W4 = W3.alloc (.cells (four y.k y.n y.t cp2 cl2 cc2) T) := ⟨_, rfl⟩
  obtain ⟨q2, hq2⟩ : ∃ q, q = W3.heap.size := ⟨_, rfl⟩
  have hkw : Keeps (fun _ => False) W3 W4 := by rw [hW4]; exact (Keeps.refl _ _).alloc _
  have hx2 : W4.heap[q2]? = some (.cells (four y.k y.n y.t cp2 cl2 cc2) T (0, 0)) := by rw [hW4, hq2]; exact heap_alloc_new _ _
  have hk24 := hk3.trans hkw
  have hz := Eq_any (y.c.nodes + 1) y.k y.k y.n y.n y.t y.t y.c y.c _ _ cp1 cp2 cl1 cc1 cl2 cc2 W4 (by omega) (HT1.out.next hk24) (ht2.next hkw)
  rw [eqB_self] at hz
  have HW4 := Lib.hid hW4
  have HQ2 := Lib.hid hq2
  obtain ⟨c0, c1, c2, c3, _⟩ := box4 (hk24.heap HX1.out)
  obtain ⟨d0, d1, d2, d3, _⟩ := box4 hx2
  have HK := Lib.hid ((HB.out.keeps.trans hk2).trans hk24)
  clear hr hW4 hq2 hkw hk3 hx2 ht2 hk2 hk24
  go_upto_region 13 with fail
  rw [← HW4.out, ← HQ2.out]
  go_wp2_with fail
  refine hz.mono ?_
  clear hz c0 c1 c2 c3 d0 d1 d2 d3
  rintro e W5 ⟨rfl, hk5⟩
  go_wp2_with fail
  go_ret
  exact ⟨rfl, HK.out.trans hk5⟩
set_option maxRecDepth 100000 in
set_option maxHeartbeats 3200000 in
theorem plays5 (x u : Nd) (path : List Int) (cp up : Option Addr) (cl cc ul uc : Nat) (pp : Option Addr) (pl pc : Nat) (st : Int) (w : World) (h : OpIn w x u path cp up cl cc ul uc pp pl pc st) :
    Calls Try.prog 22 #[opv 5 x u cp up cl cc ul uc pp pl pc st] w fun e w' => e = .returned (.bool true) ∧ Keeps (fun _ => False) w w' := by
  obtain ⟨w1, hw1⟩ : ∃ w1, w1 = w.alloc (.cells (opc 5 x u cp up cl cc ul uc pp pl pc st) OT) := ⟨_, rfl⟩
  have hB : OB w w1 5 x u path cp up cl cc ul uc pp pl pc st := by rw [hw1]; exact h.start
  have HW := Lib.hid hw1
  have hpc1 := h.pc1
  have hpc2 := h.pc2
  have hwf := h.wf
  have HB := Lib.hid hB
  obtain ⟨⟨o0, o1, o2⟩, ⟨a0, a1, a2, a3⟩, ⟨b0, b1, b2, b3⟩⟩ := boxO hB.box
  have hM1 : Hid (∀ W, Keeps (fun _ => False) w1 W → Calls Try.prog 11 #[tv x.k x.n x.t cp cl cc, .slice pp pl pc] W (TreeRes W (atF x path))) := Lib.hid fun W hk => At_any x path cp cl cc _ _ pp pl pc W (hB.next hk).tx (hB.next hk).tp
  have hM2 : Hid (∀ W, Keeps (fun _ => False) w1 W → Calls Try.prog 51 #[tv x.k x.n x.t cp cl cc, .slice pp pl pc] W (TreeRes W (atF x path))) := Lib.hid fun W hk => rAt_any x path cp cl cc _ _ pp pl pc W (hB.next hk).tx (hB.next hk).tp
  obtain ⟨⟨y, nn⟩, hy⟩ : ∃ r, atF x path = r := ⟨_, rfl⟩
  rw [hy] at hM1 hM2
  clear hw1 h hB hy hpc1 hpc2 hwf
  go_enter Try.func22, Try.ntmps22
  go_upto_region 1 with fail
  rw [← HW.out]
  go_wp2_with fail
  refine (hM1.out _ (Keeps.refl _ _)).mono ?_
  clear a0 a1 a2 a3 b0 b1 b2 b3 o0 o1 o2
  rintro e W hr
  obtain ⟨cp1, cl1, cc1, A1, rfl, ht1, _, hk1⟩ := TreeRes.out2 hr
  obtain ⟨W2, hW2⟩ : ∃ W2, W2 = W.alloc (.cells (four y.k y.n y.t cp1 cl1 cc1) T) := ⟨_, rfl⟩
  obtain ⟨q1, hq1⟩ : ∃ q, q = W.heap.size := ⟨_, rfl⟩
  have hkw : Keeps (fun _ => False) W W2 := by rw [hW2]; exact (Keeps.refl _ _).alloc _
  have hx1 : W2.heap[q1]? = some (.cells (four y.k y.n y.t cp1 cl1 cc1) T (0, 0)) := by rw [hW2, hq1]; exact heap_alloc_new _ _
  have hk2 := hk1.trans hkw
  have ht1 := ht1.next hkw
  have HW2 := Lib.hid hW2
  have HQ1 := Lib.hid hq1
  have HX1 := Lib.hid hx1
  have HT1 := Lib.hid ht1
  obtain ⟨⟨o0, o1, o2⟩, ⟨a0, a1, a2, a3⟩, ⟨b0, b1, b2, b3⟩⟩ := boxO (HB.out.next hk2).box
  clear hr hW2 hq1 hkw hk1 hx1 ht1
  go_upto_region 16 with fail
  rw [← HW2.out, ← HQ1.out]
  go_wp2_with fail
  refine (hM2.out _ hk2).mono ?_
  clear a0 a1 a2 a3 b0 b1 b2 b3 o0 o1 o2
  rintro e W3 hr
  obtain ⟨cp2, cl2, cc2, A2, rfl, ht2, _, hk3⟩ := TreeRes.out2 hr
  obtain ⟨W4, hW4⟩ : ∃ W4, W4 = W3.alloc (.cells (four y.k y.n y.t cp2 cl2 cc2) T) := ⟨_, rfl⟩
  obtain ⟨q2, hq2⟩ : ∃ q, q = W3.heap.size := ⟨_, rfl⟩
  have hkw : Keeps (fun _ => False) W3 W4 := by rw [hW4]; exact (Keeps.refl _ _).alloc _
  have hx2 : W4.heap[q2]? = some (.cells (four y.k y.n y.t cp2 cl2 cc2) T (0, 0)) := by rw [hW4, hq2]; exact heap_alloc_new _ _
  have hk24 := hk3.trans hkw
  have hz := Eq_any (y.c.nodes + 1) y.k y.k y.n y.n y.t y.t y.c y.c _ _ cp1 cp2 cl1 cc1 cl2 cc2 W4 (by omega) (HT1.out.next hk24) (ht2.next hkw)
  rw [eqB_self] at hz
  have HW4 := Lib.hid hW4
  have HQ2 := Lib.hid hq2
  obtain ⟨c0, c1, c2, c3, _⟩ := box4 (hk24.heap HX1.out)
  obtain ⟨d0, d1, d2, d3, _⟩ := box4 hx2
  have HK := Lib.hid ((HB.out.keeps.trans hk2).trans hk24)
  clear hr hW4 hq2 hkw hk3 hx2 ht2 hk2 hk24
  go_upto_region 17 with fail
  rw [← HW4.out, ← HQ2.out]
  go_wp2_with fail
  refine hz.mono ?_
  clear hz c0 c1 c2 c3 d0 d1 d2 d3
  rintro e W5 ⟨rfl, hk5⟩
  go_wp2_with fail
  go_ret
  exact ⟨rfl, HK.out.trans hk5⟩
set_option maxRecDepth 100000 in
set_option maxHeartbeats 3200000 in
theorem plays6 (x u : Nd) (path : List Int) (cp up : Option Addr) (cl cc ul uc : Nat) (pp : Option Addr) (pl pc : Nat) (st : Int) (w : World) (h : OpIn w x u path cp up cl cc ul uc pp pl pc st) :
    Calls Try.prog 22 #[opv 6 x u cp up cl cc ul uc pp pl pc st] w fun e w' => e = .returned (.bool true) ∧ Keeps (fun _ => False) w w' := by
  obtain ⟨w1, hw1⟩ : ∃ w1, w1 = w.alloc (.cells (opc 6 x u cp up cl cc ul uc pp pl pc st) OT) := ⟨_, rfl⟩
  have hB : OB w w1 6 x u path cp up cl cc ul uc pp pl pc st := by rw [hw1]; exact h.start
  have HW := Lib.hid hw1
  have hpc1 := h.pc1
  have hpc2 := h.pc2
  have hwf := h.wf
  have HB := Lib.hid hB
  obtain ⟨⟨o0, o1, o2⟩, ⟨a0, a1, a2, a3⟩, ⟨b0, b1, b2, b3⟩⟩ := boxO hB.box
  have hM1 : Hid (∀ W, Keeps (fun _ => False) w1 W → Calls Try.prog 14 #[tv x.k x.n x.t cp cl cc, .slice pp pl pc, tv u.k u.n u.t up ul uc] W (TreeRes W (putF x path u))) := Lib.hid fun W hk => Put_any x u path cp up cl cc ul uc _ _ _ pp pl pc W (hB.next hk).tx (hB.next hk).tp (hB.next hk).tu
  have hM2 : Hid (∀ W, Keeps (fun _ => False) w1 W → Calls Try.prog 52 #[tv x.k x.n x.t cp cl cc, .slice pp pl pc, tv u.k u.n u.t up ul uc] W (TreeRes W (putF x path u))) := Lib.hid fun W hk => rPut_any x u path cp up cl cc ul uc _ _ _ pp pl pc W (hB.next hk).tx (hB.next hk).tp hpc1 hpc2 (hB.next hk).tu
  obtain ⟨⟨y, nn⟩, hy⟩ : ∃ r, putF x path u = r := ⟨_, rfl⟩
  rw [hy] at hM1 hM2
  clear hw1 h hB hy hpc1 hpc2 hwf
  go_enter Try.func22, Try.ntmps22
  go_upto_region 1 with fail
  rw [← HW.out]
  go_wp2_with fail
  refine (hM1.out _ (Keeps.refl _ _)).mono ?_
  clear a0 a1 a2 a3 b0 b1 b2 b3 o0 o1 o2
  rintro e W hr
  obtain ⟨cp1, cl1, cc1, A1, rfl, ht1, _, hk1⟩ := TreeRes.out2 hr
  obtain ⟨W2, hW2⟩ : ∃ W2, W2 = W.alloc (.cells (four y.k y.n y.t cp1 cl1 cc1) T) := ⟨_, rfl⟩
  obtain ⟨q1, hq1⟩ : ∃ q, q = W.heap.size := ⟨_, rfl⟩
  have hkw : Keeps (fun _ => False) W W2 := by rw [hW2]; exact (Keeps.refl _ _).alloc _
  have hx1 : W2.heap[q1]? = some (.cells (four y.k y.n y.t cp1 cl1 cc1) T (0, 0)) := by rw [hW2, hq1]; exact heap_alloc_new _ _
  have hk2 := hk1.trans hkw
  have ht1 := ht1.next hkw
  have HW2 := Lib.hid hW2
  have HQ1 := Lib.hid hq1
  have HX1 := Lib.hid hx1
  have HT1 := Lib.hid ht1
  obtain ⟨⟨o0, o1, o2⟩, ⟨a0, a1, a2, a3⟩, ⟨b0, b1, b2, b3⟩⟩ := boxO (HB.out.next hk2).box
  clear hr hW2 hq1 hkw hk1 hx1 ht1
  go_upto_region 20 with fail
  rw [← HW2.out, ← HQ1.out]
  go_wp2_with fail
  refine (hM2.out _ hk2).mono ?_
  clear a0 a1 a2 a3 b0 b1 b2 b3 o0 o1 o2
  rintro e W3 hr
  obtain ⟨cp2, cl2, cc2, A2, rfl, ht2, _, hk3⟩ := TreeRes.out2 hr
  obtain ⟨W4, hW4⟩ : ∃ W4, W4 = W3.alloc (.cells (four y.k y.n y.t cp2 cl2 cc2) T) := ⟨_, rfl⟩
  obtain ⟨q2, hq2⟩ : ∃ q, q = W3.heap.size := ⟨_, rfl⟩
  have hkw : Keeps (fun _ => False) W3 W4 := by rw [hW4]; exact (Keeps.refl _ _).alloc _
  have hx2 : W4.heap[q2]? = some (.cells (four y.k y.n y.t cp2 cl2 cc2) T (0, 0)) := by rw [hW4, hq2]; exact heap_alloc_new _ _
  have hk24 := hk3.trans hkw
  have hz := Eq_any (y.c.nodes + 1) y.k y.k y.n y.n y.t y.t y.c y.c _ _ cp1 cp2 cl1 cc1 cl2 cc2 W4 (by omega) (HT1.out.next hk24) (ht2.next hkw)
  rw [eqB_self] at hz
  have HW4 := Lib.hid hW4
  have HQ2 := Lib.hid hq2
  obtain ⟨c0, c1, c2, c3, _⟩ := box4 (hk24.heap HX1.out)
  obtain ⟨d0, d1, d2, d3, _⟩ := box4 hx2
  have HK := Lib.hid ((HB.out.keeps.trans hk2).trans hk24)
  clear hr hW4 hq2 hkw hk3 hx2 ht2 hk2 hk24
  go_upto_region 21 with fail
  rw [← HW4.out, ← HQ2.out]
  go_wp2_with fail
  refine hz.mono ?_
  clear hz c0 c1 c2 c3 d0 d1 d2 d3
  rintro e W5 ⟨rfl, hk5⟩
  go_wp2_with fail
  go_ret
  exact ⟨rfl, HK.out.trans hk5⟩
set_option maxRecDepth 100000 in
set_option maxHeartbeats 3200000 in
theorem plays7 (x u : Nd) (path : List Int) (cp up : Option Addr) (cl cc ul uc : Nat) (pp : Option Addr) (pl pc : Nat) (st : Int) (w : World) (h : OpIn w x u path cp up cl cc ul uc pp pl pc st) :
    Calls Try.prog 22 #[opv 7 x u cp up cl cc ul uc pp pl pc st] w fun e w' => e = .returned (.bool true) ∧ Keeps (fun _ => False) w w' := by
  obtain ⟨w1, hw1⟩ : ∃ w1, w1 = w.alloc (.cells (opc 7 x u cp up cl cc ul uc pp pl pc st) OT) := ⟨_, rfl⟩
  have hB : OB w w1 7 x u path cp up cl cc ul uc pp pl pc st := by rw [hw1]; exact h.start
  have HW := Lib.hid hw1
  have hpc1 := h.pc1
  have hpc2 := h.pc2
  have hwf := h.wf
  have HB := Lib.hid hB
  obtain ⟨⟨o0, o1, o2⟩, ⟨a0, a1, a2, a3⟩, ⟨b0, b1, b2, b3⟩⟩ := boxO hB.box
  have hM1 := each_any 7 x u cp up cl cc ul uc pp pl pc st _ w1 hB.tx hwf
  clear hw1 h hB hpc1 hpc2 hwf
  go_enter Try.func22, Try.ntmps22
  go_upto_region 1 with fail
  rw [← HW.out]
  go_wp2_with fail
  refine hM1.mono ?_
  clear hM1 a0 a1 a2 a3 b0 b1 b2 b3 o0 o1 o2
  rintro e W ⟨rfl, hk⟩
  go_wp2_with fail
  go_ret
  exact ⟨rfl, HB.out.keeps.trans hk⟩
set_option maxRecDepth 100000 in
set_option maxHeartbeats 3200000 in
theorem plays0 (kd : Int) (n1 : kd ≠ 1) (n2 : kd ≠ 2) (n3 : kd ≠ 3) (n4 : kd ≠ 4) (n5 : kd ≠ 5) (n6 : kd ≠ 6) (n7 : kd ≠ 7) (n8 : kd ≠ 8) (x u : Nd) (path : List Int) (cp up : Option Addr) (cl cc ul uc : Nat) (pp : Option Addr) (pl pc : Nat) (st : Int) (w : World) (h : OpIn w x u path cp up cl cc ul uc pp pl pc st) :
    Calls Try.prog 22 #[opv kd x u cp up cl cc ul uc pp pl pc st] w fun e w' => e = .returned (.bool true) ∧ Keeps (fun _ => False) w w' := by
  obtain ⟨w1, hw1⟩ : ∃ w1, w1 = w.alloc (.cells (opc kd x u cp up cl cc ul uc pp pl pc st) OT) := ⟨_, rfl⟩
  have hB : OB w w1 kd x u path cp up cl cc ul uc pp pl pc st := by rw [hw1]; exact h.start
  have HW := Lib.hid hw1
  have hpc1 := h.pc1
  have hpc2 := h.pc2
  have hwf := h.wf
  have HB := Lib.hid hB
  obtain ⟨⟨o0, o1, o2⟩, ⟨a0, a1, a2, a3⟩, ⟨b0, b1, b2, b3⟩⟩ := boxO hB.box
  clear hw1 h hB hpc1 hpc2 hwf
  go_enter Try.func22, Try.ntmps22
  go_upto_region 1 with fail
  rw [← HW.out]
  have m1 : (kd == 1) = false := by simpa using n1
  have m2 : (kd == 2) = false := by simpa using n2
  have m3 : (kd == 3) = false := by simpa using n3
  have m4 : (kd == 4) = false := by simpa using n4
  have m5 : (kd == 5) = false := by simpa using n5
  have m6 : (kd == 6) = false := by simpa using n6
  have m7 : (kd == 7) = false := by simpa using n7
  have m8 : (kd == 8) = false := by simpa using n8
  go_wp2_with fail
  go_ret
  exact ⟨rfl, HB.out.keeps⟩

theorem kindsF_len (x : Nd) : (kindsF x).length ≤ 100000 := by
  unfold kindsF
  split
  · rename_i h
    have h1 := uniq_le (x.k :: x.c.kinds)
    have h2 := h.1
    rw [List.length_cons, Fo.kinds_len] at h1
    simp only [Nd.nodes] at h2
    omega
  · simp
set_option maxRecDepth 100000 in
set_option maxHeartbeats 3200000 in
theorem plays8 (x u : Nd) (path : List Int) (cp up : Option Addr) (cl cc ul uc : Nat) (pp : Option Addr) (pl pc : Nat) (st : Int) (w : World) (h : OpIn w x u path cp up cl cc ul uc pp pl pc st) :
    Calls Try.prog 22 #[opv 8 x u cp up cl cc ul uc pp pl pc st] w fun e w' => e = .returned (.bool true) ∧ Keeps (fun _ => False) w w' := by
  obtain ⟨w1, hw1⟩ : ∃ w1, w1 = w.alloc (.cells (opc 8 x u cp up cl cc ul uc pp pl pc st) OT) := ⟨_, rfl⟩
  have hB : OB w w1 8 x u path cp up cl cc ul uc pp pl pc st := by rw [hw1]; exact h.start
  have HW := Lib.hid hw1
  have HB := Lib.hid hB
  obtain ⟨⟨o0, o1, o2⟩, ⟨a0, a1, a2, a3⟩, _⟩ := boxO hB.box
  have HS : Hid (∀ W, Keeps (fun _ => False) w1 W → W.cell? ⟨w.heap.size, 1, none⟩ = some (.string x.k) ∧ W.cell? ⟨w.heap.size, 2, none⟩ = some (.int .i64 x.n) ∧ W.cell? ⟨w.heap.size, 3, none⟩ = some (.string x.t) ∧ W.cell? ⟨w.heap.size, 4, none⟩ = some (.slice cp cl cc)) := Lib.hid fun W hk => (boxO (hB.next hk).box).2.1
  have hM1 : Hid (∀ W, Keeps (fun _ => False) w1 W → Calls Try.prog 26 #[tv x.k x.n x.t cp cl cc] W (KindsR x W)) := Lib.hid fun W hk => Kinds_any x cp cl cc _ W (hB.next hk).tx
  have hM2 : Hid (∀ W, Keeps (fun _ => False) w1 W → Calls Try.prog 55 #[tv x.k x.n x.t cp cl cc] W (KindsR x W)) := Lib.hid fun W hk => rKinds_any x cp cl cc _ W (hB.next hk).tx
  have hM3 : Hid (∀ W v v' b b', W.ownsRow b 9 1 v (kindsF x).length ((kindsF x).map .string) → W.ownsRow b' 9 1 v' (kindsF x).length ((kindsF x).map .string) → Calls Try.prog 54 #[v, v'] W fun e w' => e = .returned (.bool true) ∧ Keeps (fun _ => False) W w') := Lib.hid fun W v v' b b' h1 h2 => by
    have := EqNames_any (kindsF x) (kindsF x) v v' W (ownsRow_base h1 (Nat.zero_le _)) (ownsRow_base h2 (Nat.zero_le _)) (kindsF_len x)
    rwa [decide_eq_true rfl] at this
  have hk : Keeps (fun _ => False) w1 w1 := Keeps.refl _ _
  clear hw1 h hB
  go_enter Try.func22, Try.ntmps22
  go_upto_region 1 with fail
  rw [← HW.out]
  go_upto_region 25 with fail
  go_cut [2] from 158 (fun v W => v = .bool true ∧ Keeps (fun _ => False) w1 W)
  case first =>
    clear o0 o1 o2
    go_region_held3 (fun W' => W'.cell? ⟨w.heap.size, 1, none⟩ = some (.string x.k) ∧ W'.cell? ⟨w.heap.size, 2, none⟩ = some (.int .i64 x.n) ∧ W'.cell? ⟨w.heap.size, 3, none⟩ = some (.string x.t) ∧ W'.cell? ⟨w.heap.size, 4, none⟩ = some (.slice cp cl cc)) (exact HS.out _ (by repeat' (first | exact hk | refine Keeps.drew ?_ | refine Keeps.alloc ?_ _))) (first | (go_simp; go_at_call 26; refine (hM1.out _ (by repeat' (first | exact hk | refine Keeps.drew ?_ | refine Keeps.alloc ?_ _))).mono ?_; rintro e W1 ⟨vp1, vl1, vc1, rfl, hra, hkc⟩; have hk := Keeps.trans (w := w1) (by repeat' (first | exact hk | refine Keeps.drew ?_ | refine Keeps.alloc ?_ _)) hkc) | (go_simp; go_at_call 55; refine (hM2.out _ (by repeat' (first | exact hk | refine Keeps.drew ?_ | refine Keeps.alloc ?_ _))).mono ?_; rintro e W1 ⟨vp2, vl2, vc2, rfl, hrb, hkc⟩; have hk := Keeps.trans (w := w1) (by repeat' (first | exact hk | refine Keeps.drew ?_ | refine Keeps.alloc ?_ _)) hkc) | (go_simp; go_at_call 54; refine (hM3.out _ _ _ _ _ (by first | exact hra | exact ownsRow_keeps hra hkc (fun _ _ h => h)) (by first | exact hrb | exact ownsRow_keeps hrb hkc (fun _ _ h => h))).mono ?_; rintro e W3 ⟨rfl, hkz⟩; have hk := Keeps.trans hk hkz))
    all_goals
      go_wp2_with fail
      go_meet
      case rel => exact ⟨rfl, hk⟩
  case rest =>
    obtain ⟨V, hV⟩ : ∃ V, V = wc := ⟨_, rfl⟩
    subst hV
    obtain ⟨rfl, hkV⟩ := hcut
    clear a0 a1 a2 a3 o0 o1 o2
    go_wp2_with fail
    go_ret
    exact ⟨rfl, HB.out.keeps.trans hkV⟩
theorem plays_any (kd : Int) (x u : Nd) (path : List Int) (cp up : Option Addr) (cl cc ul uc : Nat) (pp : Option Addr) (pl pc : Nat) (st : Int) (w : World) (h : OpIn w x u path cp up cl cc ul uc pp pl pc st) :
    Calls Try.prog 22 #[opv kd x u cp up cl cc ul uc pp pl pc st] w fun e w' => e = .returned (.bool true) ∧ Keeps (fun _ => False) w w' := by
  by_cases h1 : kd = 1
  · subst h1; exact plays1 x u path cp up cl cc ul uc pp pl pc st w h
  by_cases h2 : kd = 2
  · subst h2; exact plays2 x u path cp up cl cc ul uc pp pl pc st w h
  by_cases h3 : kd = 3
  · subst h3; exact plays3 x u path cp up cl cc ul uc pp pl pc st w h
  by_cases h4 : kd = 4
  · subst h4; exact plays4 x u path cp up cl cc ul uc pp pl pc st w h
  by_cases h5 : kd = 5
  · subst h5; exact plays5 x u path cp up cl cc ul uc pp pl pc st w h
  by_cases h6 : kd = 6
  · subst h6; exact plays6 x u path cp up cl cc ul uc pp pl pc st w h
  by_cases h7 : kd = 7
  · subst h7; exact plays7 x u path cp up cl cc ul uc pp pl pc st w h
  by_cases h8 : kd = 8
  · subst h8; exact plays8 x u path cp up cl cc ul uc pp pl pc st w h
  exact plays0 kd h1 h2 h3 h4 h5 h6 h7 h8 x u path cp up cl cc ul uc pp pl pc st w h
end Go.Proofs.Ytnphhibfiklfjaa
