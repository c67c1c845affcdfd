/-
  espalierlaw24: what plays answers for any operation; lists of operations.
  Merged texts: XMPlay2, XMPlay0, XMPlay1, XMPlay3, XMPlay4, XMPlay5, XMPlays, XMOpsD.
-/
import Derived.Test.YtccoihmibkpedaaRFind

import Derived.Test.YtccoihmibkpedaaMEq

import Derived.Test.YtccoihmibkpedaaEqNames

import Derived.BigRegion

import Derived.Test.YtccoihmibkpedaaQuietR

import Derived.Test.YtccoihmibkpedaaRFits2

import Derived.Test.YtccoihmibkpedaaMatH

import Derived.Test.YtccoihmibkpedaaRFillA

import Derived.Test.YtccoihmibkpedaaPkF

set_option linter.unusedVariables false

set_option linter.unusedSimpArgs false

/-!
  espalierlaw24.plays: its walk (kind 2).
-/
namespace Go.Proofs.Ytccoihmibkpedaa

open Go.RowKit

/-- An operation in its box, its trees and its bounds. -/
structure MOB (w W : World) (kd : Int) (p t : Nd) (bs : List Bind) (cp tp : Option Addr) (cl cc tl tc : Nat) (bp : Option Addr) (bl bc : Nat) : Prop where
  box : W.heap[w.heap.size]? = some (.cells (mopc kd p t cp tp cl cc tl tc bp bl bc) 29 (0, 0))
  keeps : Keeps (fun _ => False) w W
  ap : ∃ A, Tv W A p.k p.t p.c cp cl cc
  at' : ∃ A, Tv W A t.k t.t t.c tp tl tc
  ab : ∃ A, BindsAt W A bs bp bl
/-- What a round takes. -/
structure MOpIn (w : World) (p t : Nd) (bs : List Bind) (cp tp : Option Addr) (cl cc tl tc : Nat) (bp : Option Addr) (bl bc : Nat) : Prop where
  ap : ∃ A, Tv w A p.k p.t p.c cp cl cc
  at' : ∃ A, Tv w A t.k t.t t.c tp tl tc
  ab : ∃ A, BindsAt w A bs bp bl
  bc1 : bl ≤ bc
  bc2 : bc ≤ 9223372036854775807
section

variable {w W W1 : World} {kd : Int} {p t : Nd} {bs : List Bind} {cp tp : Option Addr} {cl cc tl tc : Nat} {bp : Option Addr} {bl bc : Nat}

theorem MOB.next (h : MOB w W kd p t bs cp tp cl cc tl tc bp bl bc) (hk : Keeps (fun _ => False) W W1) : MOB w W1 kd p t bs cp tp cl cc tl tc bp bl bc := by
  obtain ⟨A, h1⟩ := h.ap
  obtain ⟨A', h2⟩ := h.at'
  obtain ⟨A'', h3⟩ := h.ab
  exact ⟨hk.heap h.box, h.keeps.trans hk, ⟨_, h1.next hk⟩, ⟨_, h2.next hk⟩, ⟨_, h3.next hk⟩⟩
theorem MOpIn.start (h : MOpIn w p t bs cp tp cl cc tl tc bp bl bc) : MOB w (w.alloc (.cells (mopc kd p t cp tp cl cc tl tc bp bl bc) 29)) kd p t bs cp tp cl cc tl tc bp bl bc := by
  have hk : Keeps (fun _ => False) w (w.alloc (.cells (mopc kd p t cp tp cl cc tl tc bp bl bc) 29)) := (Keeps.refl _ w).alloc _
  obtain ⟨A, h1⟩ := h.ap
  obtain ⟨A', h2⟩ := h.at'
  obtain ⟨A'', h3⟩ := h.ab
  exact ⟨heap_alloc_new _ _, hk, ⟨_, h1.next hk⟩, ⟨_, h2.next hk⟩, ⟨_, h3.next hk⟩⟩
end

set_option maxRecDepth 100000 in
set_option maxHeartbeats 3200000 in
theorem mplays2 (p t : Nd) (bs : List Bind) (cp tp : Option Addr) (cl cc tl tc : Nat) (bp : Option Addr) (bl bc : Nat) (w : World) (h : MOpIn w p t bs cp tp cl cc tl tc bp bl bc) :
    Calls Try.prog 11 #[.agg (mopc 2 p t cp tp cl cc tl tc bp bl bc)] w fun e w' => e = .returned (.bool true) ∧ Keeps (fun _ => False) w w' := by
  obtain ⟨w1, hw1⟩ : ∃ w1, w1 = w.alloc (.cells (mopc 2 p t cp tp cl cc tl tc bp bl bc) 29) := ⟨_, rfl⟩
  have hB : MOB w w1 2 p t bs cp tp cl cc tl tc bp bl bc := by rw [hw1]; exact h.start
  have HW := Lib.hid hw1
  have HB := Lib.hid hB
  obtain ⟨⟨o0, o9⟩, ⟨a0, a1, a2, a3⟩, _⟩ := mbox hB.box
  have hM1 : Hid (∀ W, Keeps (fun _ => False) w1 W → Calls Try.prog 29 #[tv p.k p.n p.t cp cl cc] W (StrsR (namesF p) W)) := Lib.hid fun W hk => by
    obtain ⟨A, h1⟩ := (hB.next hk).ap
    exact pNames_any p cp cl cc _ W h1
  have hM2 : Hid (∀ W, Keeps (fun _ => False) w1 W → Calls Try.prog 49 #[tv p.k p.n p.t cp cl cc] W (StrsR (namesF p) W)) := Lib.hid fun W hk => by
    obtain ⟨A, h1⟩ := (hB.next hk).ap
    exact rPNames_any p cp cl cc _ W h1
  have HLN : Hid ((namesF p).length ≤ 100000) := Lib.hid (by
    unfold namesF
    split
    · rename_i hp
      have h1 := nts_len p
      have h2 := small_nodes (mayF_small (pmayF_zero hp).1)
      rw [List.length_map]
      omega
    · simp)
  clear hw1 h hB
  go_enter Try.func11, Try.ntmps11
  go_upto_region 1 with fail
  rw [← HW.out]
  go_wp2_with fail
  refine (hM1.out _ (Keeps.refl _ _)).mono ?_
  clear a0 a1 a2 a3 o0 o9
  rintro e W ⟨vp, vl, vc, rfl, hr, _, hk⟩
  obtain ⟨⟨o0, o9⟩, ⟨a0, a1, a2, a3⟩, _⟩ := mbox (HB.out.next hk).box
  have HR := Lib.hid hr
  clear hr
  go_wp2_with fail
  refine (hM2.out _ hk).mono ?_
  clear a0 a1 a2 a3 o0 o9
  rintro e W2 ⟨up, ul, uc, rfl, hr2, _, hk2⟩
  have hz := EqNames_any (namesF p) (namesF p) _ _ W2 (ownsRow_keeps HR.out hk2 (fun _ _ h => h)) hr2 HLN.out
  rw [decide_eq_true rfl] at hz
  clear hr2
  go_wp2_with fail
  refine hz.mono ?_
  clear hz
  rintro e W3 ⟨rfl, hk3⟩
  go_wp2_with fail
  go_ret
  exact ⟨rfl, ((HB.out.keeps.trans hk).trans hk2).trans hk3⟩
end Go.Proofs.Ytccoihmibkpedaa

/-!
  espalierlaw24.plays, no kind of the five.
-/
namespace Go.Proofs.Ytccoihmibkpedaa

open Go.RowKit

set_option maxRecDepth 100000 in
set_option maxHeartbeats 1600000 in
theorem mplays0 (kd : Int) (n1 : kd ≠ 1) (n2 : kd ≠ 2) (n3 : kd ≠ 3) (n4 : kd ≠ 4) (n5 : kd ≠ 5) (p t : Nd) (bs : List Bind) (cp tp : Option Addr) (cl cc tl tc : Nat) (bp : Option Addr) (bl bc : Nat) (w : World) (h : MOpIn w p t bs cp tp cl cc tl tc bp bl bc) :
    Calls Try.prog 11 #[.agg (mopc kd p t cp tp cl cc tl tc bp bl bc)] w fun e w' => e = .returned (.bool true) ∧ Keeps (fun _ => False) w w' := by
  obtain ⟨w1, hw1⟩ : ∃ w1, w1 = w.alloc (.cells (mopc kd p t cp tp cl cc tl tc bp bl bc) 29) := ⟨_, rfl⟩
  have hB : MOB w w1 kd p t bs cp tp cl cc tl tc bp bl bc := by rw [hw1]; exact h.start
  have HW := Lib.hid hw1
  have HB := Lib.hid hB
  obtain ⟨⟨o0, o9⟩, _, _⟩ := mbox hB.box
  clear hw1 h hB
  go_enter Try.func11, Try.ntmps11
  go_upto_region 1 with fail
  rw [← HW.out]
  have m1 : (kd == 1) = false := by simpa using n1
  have m2 : (kd == 2) = false := by simpa using n2
  have m3 : (kd == 3) = false := by simpa using n3
  have m4 : (kd == 4) = false := by simpa using n4
  have m5 : (kd == 5) = false := by simpa using n5
  go_wp2_with fail
  go_ret
  exact ⟨rfl, HB.out.keeps⟩
end Go.Proofs.Ytccoihmibkpedaa

/-!
  espalierlaw24.plays, kind 1 (may).
-/
namespace Go.Proofs.Ytccoihmibkpedaa

open Go.RowKit Go.Shelf Go.Sort

set_option maxRecDepth 100000 in
set_option maxHeartbeats 1600000 in
theorem mplays1 (p t : Nd) (bs : List Bind) (cp tp : Option Addr) (cl cc tl tc : Nat) (bp : Option Addr) (bl bc : Nat) (w : World) (h : MOpIn w p t bs cp tp cl cc tl tc bp bl bc) :
    Calls Try.prog 11 #[.agg (mopc 1 p t cp tp cl cc tl tc bp bl bc)] w fun e w' => e = .returned (.bool true) ∧ Keeps (fun _ => False) w w' := by
  obtain ⟨w1, hw1⟩ : ∃ w1, w1 = w.alloc (.cells (mopc 1 p t cp tp cl cc tl tc bp bl bc) 29) := ⟨_, rfl⟩
  have hB : MOB w w1 1 p t bs cp tp cl cc tl tc bp bl bc := by rw [hw1]; exact h.start
  have HW := Lib.hid hw1
  have HB := Lib.hid hB
  obtain ⟨⟨o0, o9⟩, ⟨a0, a1, a2, a3⟩, _⟩ := mbox hB.box
  obtain ⟨v, hv⟩ : ∃ v, pmayF p = v := ⟨_, rfl⟩
  have hM1 : Hid (∀ W, Keeps (fun _ => False) w1 W → Calls Try.prog 28 #[tv p.k p.n p.t cp cl cc] W fun e w' => e = .returned (.int .i64 v) ∧ Keeps (fun _ => False) W w') := Lib.hid fun W hk => by
    obtain ⟨A, h1⟩ := (hB.next hk).ap
    rw [← hv]
    exact pMay_any p cp cl cc _ W h1
  have hM2 : Hid (∀ W, Keeps (fun _ => False) w1 W → Calls Try.prog 48 #[tv p.k p.n p.t cp cl cc] W fun e w' => e = .returned (.int .i64 v) ∧ Keeps (fun _ => False) W w') := Lib.hid fun W hk => by
    obtain ⟨A, h1⟩ := (hB.next hk).ap
    rw [← hv]
    exact rPMay_any p cp cl cc _ W h1
  clear hw1 h hB hv
  go_enter Try.func11, Try.ntmps11
  go_upto_region 1 with fail
  rw [← HW.out]
  go_wp2_with fail
  have ka0 := fun d os => cell_regrown a0 d os
  have ka1 := fun d os => cell_regrown a1 d os
  have ka2 := fun d os => cell_regrown a2 d os
  have ka3 := fun d os => cell_regrown a3 d os
  refine wp_region_quiet_below (by kernel_rfl) (by kernel_rfl) ?_
  repeat (refine wpQuiet_step (fun K hK => ?_); go_simp; first | (refine hK _ ?_; clear hK K) | (apply Exists.intro; refine ⟨fun _ => ?_, hK _ ?_⟩; (first | exact quiet_call0 hM1.out | exact quiet_call0 hM2.out); clear hK K))
  refine wpQuiet_nil ?_
  intro W8 hk8
  have hk8 := keeps_regrown hk8
  clear ka0 ka1 ka2 ka3 a0 a1 a2 a3 o0 o9
  go_wp2_with fail
  go_ret
  exact ⟨by simp, HB.out.keeps.trans hk8⟩
end Go.Proofs.Ytccoihmibkpedaa

/-!
  espalierlaw24.plays, kind 3 (fits).
-/
namespace Go.Proofs.Ytccoihmibkpedaa

open Go.RowKit

set_option maxRecDepth 100000 in
set_option maxHeartbeats 1600000 in
theorem mplays3 (p t : Nd) (bs : List Bind) (cp tp : Option Addr) (cl cc tl tc : Nat) (bp : Option Addr) (bl bc : Nat) (w : World) (h : MOpIn w p t bs cp tp cl cc tl tc bp bl bc) :
    Calls Try.prog 11 #[.agg (mopc 3 p t cp tp cl cc tl tc bp bl bc)] w fun e w' => e = .returned (.bool true) ∧ Keeps (fun _ => False) w w' := by
  obtain ⟨w1, hw1⟩ : ∃ w1, w1 = w.alloc (.cells (mopc 3 p t cp tp cl cc tl tc bp bl bc) 29) := ⟨_, rfl⟩
  have hB : MOB w w1 3 p t bs cp tp cl cc tl tc bp bl bc := by rw [hw1]; exact h.start
  have HW := Lib.hid hw1
  have HB := Lib.hid hB
  obtain ⟨⟨o0, o9⟩, ⟨a0, a1, a2, a3⟩, ⟨b0, b1, b2, b3⟩⟩ := mbox hB.box
  obtain ⟨ok, hok⟩ : ∃ r, (fitsF p t).isSome = r := ⟨_, rfl⟩
  have hM1 : Hid (∀ W, Keeps (fun _ => False) w1 W → Calls Try.prog 14 #[tv p.k p.n p.t cp cl cc, tv t.k t.n t.t tp tl tc] W (FitsR (fitsB p t) ok W)) := Lib.hid fun W hk => by
    obtain ⟨A, h1⟩ := (hB.next hk).ap
    obtain ⟨A', h2⟩ := (hB.next hk).at'
    rw [← hok]
    exact Fits_any p t cp tp cl cc tl tc _ _ W h1 h2
  have hM2 : Hid (∀ W, Keeps (fun _ => False) w1 W → Calls Try.prog 15 #[tv p.k p.n p.t cp cl cc, tv t.k t.n t.t tp tl tc] W (RFitsR (fitsB p t) ok W)) := Lib.hid fun W hk => by
    obtain ⟨A, h1⟩ := (hB.next hk).ap
    obtain ⟨A', h2⟩ := (hB.next hk).at'
    rw [← hok]
    exact rFits_any p t cp tp cl cc tl tc _ _ W h1 h2
  clear hw1 h hB hok
  go_enter Try.func11, Try.ntmps11
  go_upto_region 1 with fail
  rw [← HW.out]
  go_wp2_with fail
  refine (hM1.out _ (Keeps.refl _ _)).mono ?_
  clear a0 a1 a2 a3 b0 b1 b2 b3 o0 o9
  rintro e W ⟨lp, ll, lc, xs, blks, rfl, hr, hk⟩
  obtain ⟨⟨o0, o9⟩, ⟨a0, a1, a2, a3⟩, ⟨b0, b1, b2, b3⟩⟩ := mbox (HB.out.next hk).box
  have HR := Lib.hid hr
  clear hr
  go_wp2_with fail
  refine (hM2.out _ hk).mono ?_
  clear a0 a1 a2 a3 b0 b1 b2 b3 o0 o9
  rintro e W2 ⟨up, ul, uc, xs2, rfl, hr2, hk2⟩
  obtain rfl : ul = ll := by rw [HR.out.length, hr2.length]
  have hz := mEq_any (fitsB p t) lp up ul lc uc _ _ W2 (HR.out.at_.next hk2) hr2.at_ HR.out.cap.1 HR.out.cap.2 hr2.cap.1 hr2.cap.2
  clear hr2
  go_wp2_with fail
  refine hz.mono ?_
  clear hz
  rintro e W3 ⟨rfl, hk3⟩
  go_wp2_with fail
  go_ret
  exact ⟨by simp, ((HB.out.keeps.trans hk).trans hk2).trans hk3⟩
end Go.Proofs.Ytccoihmibkpedaa

/-!
  espalierlaw24.plays, kind 4 (fill), over a given answer of the reference's Fill; and no kind.
-/
namespace Go.Proofs.Ytccoihmibkpedaa

open Go.RowKit

set_option maxRecDepth 100000 in
set_option maxHeartbeats 1600000 in
theorem mplays4 (p t : Nd) (bs : List Bind) (cp tp : Option Addr) (cl cc tl tc : Nat) (bp : Option Addr) (bl bc : Nat) (w : World) (h : MOpIn w p t bs cp tp cl cc tl tc bp bl bc) (hbl : bl ≤ 17592186044416)
    (hF : ∀ (A A' : Nat → Prop) (w : World), Tv w A p.k p.t p.c cp cl cc → BindsAt w A' bs bp bl → Calls Try.prog 17 #[tv p.k p.n p.t cp cl cc, .slice bp bl bc] w fun e w' => ∃ cp1 cl1 cc1, e = .returned (.tuple #[tv (fillF p bs).1.k (fillF p bs).1.n (fillF p bs).1.t cp1 cl1 cc1, .int .i64 (fillF p bs).2]) ∧ Tv w' (fun b => b < w'.heap.size) (fillF p bs).1.k (fillF p bs).1.t (fillF p bs).1.c cp1 cl1 cc1 ∧ Keeps (fun _ => False) w w') :
    Calls Try.prog 11 #[.agg (mopc 4 p t cp tp cl cc tl tc bp bl bc)] w fun e w' => e = .returned (.bool true) ∧ Keeps (fun _ => False) w w' := by
  obtain ⟨w1, hw1⟩ : ∃ w1, w1 = w.alloc (.cells (mopc 4 p t cp tp cl cc tl tc bp bl bc) 29) := ⟨_, rfl⟩
  have hB : MOB w w1 4 p t bs cp tp cl cc tl tc bp bl bc := by rw [hw1]; exact h.start
  have HW := Lib.hid hw1
  have HB := Lib.hid hB
  have hbc1 := h.bc1
  have hbc2 := h.bc2
  obtain ⟨⟨o0, o9⟩, ⟨a0, a1, a2, a3⟩, _⟩ := mbox hB.box
  obtain ⟨⟨y, nn⟩, hy⟩ : ∃ r, fillF p bs = r := ⟨_, rfl⟩
  rw [hy] at hF
  have hM1 : Hid (∀ W, Keeps (fun _ => False) w1 W → Calls Try.prog 16 #[tv p.k p.n p.t cp cl cc, .slice bp bl bc] W (TreeRes W (y, nn))) := Lib.hid fun W hk => by
    obtain ⟨A, h1⟩ := (hB.next hk).ap
    obtain ⟨A', h2⟩ := (hB.next hk).ab
    rw [← hy]
    exact Fill_any p bs cp bp cl cc bl bc _ _ W h1 h2 hbc1 hbc2 hbl
  have hM2 : Hid (∀ W, Keeps (fun _ => False) w1 W → Calls Try.prog 17 #[tv p.k p.n p.t cp cl cc, .slice bp bl bc] W fun e w' => ∃ cp1 cl1 cc1, e = .returned (.tuple #[tv y.k y.n y.t cp1 cl1 cc1, .int .i64 nn]) ∧ Tv w' (fun b => b < w'.heap.size) y.k y.t y.c cp1 cl1 cc1 ∧ Keeps (fun _ => False) W w') := Lib.hid fun W hk => by
    obtain ⟨A, h1⟩ := (hB.next hk).ap
    obtain ⟨A', h2⟩ := (hB.next hk).ab
    exact hF _ _ W h1 h2
  clear hw1 h hB hy hF hbc1 hbc2
  go_enter Try.func11, Try.ntmps11
  go_upto_region 1 with fail
  rw [← HW.out]
  go_wp2_with fail
  refine (hM1.out _ (Keeps.refl _ _)).mono ?_
  clear a0 a1 a2 a3 o0 o9
  rintro e W hr
  obtain ⟨cp1, cl1, cc1, A1, rfl, ht1, _, hk1⟩ := TreeRes.out2 hr
  obtain ⟨W2, hW2⟩ : ∃ W2, W2 = W.alloc (.cells (four y.k y.n y.t cp1 cl1 cc1) T) := ⟨_, rfl⟩
  obtain ⟨q1, hq1⟩ : ∃ q, q = W.heap.size := ⟨_, rfl⟩
  have hkw : Keeps (fun _ => False) W W2 := by rw [hW2]; exact (Keeps.refl _ _).alloc _
  have hx1 : W2.heap[q1]? = some (.cells (four y.k y.n y.t cp1 cl1 cc1) T (0, 0)) := by rw [hW2, hq1]; exact heap_alloc_new _ _
  have hk2 := hk1.trans hkw
  have ht1 := ht1.next hkw
  have HW2 := Lib.hid hW2
  have HQ1 := Lib.hid hq1
  have HX1 := Lib.hid hx1
  have HT1 := Lib.hid ht1
  obtain ⟨⟨o0, o9⟩, ⟨a0, a1, a2, a3⟩, _⟩ := mbox (HB.out.next hk2).box
  clear hr hW2 hq1 hkw hk1 hx1 ht1
  go_upto_region 14 with fail
  rw [← HW2.out, ← HQ1.out]
  go_wp2_with fail
  refine (hM2.out _ hk2).mono ?_
  clear a0 a1 a2 a3 o0 o9
  rintro e W3 hr
  obtain ⟨cp2, cl2, cc2, rfl, ht2, hk3⟩ := hr
  obtain ⟨W4, hW4⟩ : ∃ W4, W4 = W3.alloc (.cells (four y.k y.n y.t cp2 cl2 cc2) T) := ⟨_, rfl⟩
  obtain ⟨q2, hq2⟩ : ∃ q, q = W3.heap.size := ⟨_, rfl⟩
  have hkw : Keeps (fun _ => False) W3 W4 := by rw [hW4]; exact (Keeps.refl _ _).alloc _
  have hx2 : W4.heap[q2]? = some (.cells (four y.k y.n y.t cp2 cl2 cc2) T (0, 0)) := by rw [hW4, hq2]; exact heap_alloc_new _ _
  have hk24 := hk3.trans hkw
  have hz := Eq_any (y.c.nodes + 1) y.k y.k y.n y.n y.t y.t y.c y.c _ _ cp1 cp2 cl1 cc1 cl2 cc2 W4 (by omega) (HT1.out.next hk24) (ht2.next hkw)
  rw [eqB_self] at hz
  have HW4 := Lib.hid hW4
  have HQ2 := Lib.hid hq2
  obtain ⟨c0, c1, c2, c3, _⟩ := box4 (hk24.heap HX1.out)
  obtain ⟨d0, d1, d2, d3, _⟩ := box4 hx2
  have HK := Lib.hid ((HB.out.keeps.trans hk2).trans hk24)
  clear hW4 hq2 hkw hk3 hx2 ht2 hk2 hk24
  go_upto_region 15 with fail
  rw [← HW4.out, ← HQ2.out]
  go_wp2_with fail
  refine hz.mono ?_
  clear hz c0 c1 c2 c3 d0 d1 d2 d3
  rintro e W5 ⟨rfl, hk5⟩
  go_wp2_with fail
  go_ret
  exact ⟨rfl, HK.out.trans hk5⟩
end Go.Proofs.Ytccoihmibkpedaa

/-!
  espalierlaw24.plays, kind 5.
-/
namespace Go.Proofs.Ytccoihmibkpedaa

open Go.RowKit

set_option maxRecDepth 100000 in
set_option maxHeartbeats 1600000 in
theorem mplays5 (p t : Nd) (bs : List Bind) (cp tp : Option Addr) (cl cc tl tc : Nat) (bp : Option Addr) (bl bc : Nat) (w : World) (h : MOpIn w p t bs cp tp cl cc tl tc bp bl bc) :
    Calls Try.prog 11 #[.agg (mopc 5 p t cp tp cl cc tl tc bp bl bc)] w fun e w' => e = .returned (.bool true) ∧ Keeps (fun _ => False) w w' := by
  obtain ⟨w1, hw1⟩ : ∃ w1, w1 = w.alloc (.cells (mopc 5 p t cp tp cl cc tl tc bp bl bc) 29) := ⟨_, rfl⟩
  have hB : MOB w w1 5 p t bs cp tp cl cc tl tc bp bl bc := by rw [hw1]; exact h.start
  have HW := Lib.hid hw1
  have HB := Lib.hid hB
  obtain ⟨⟨o0, o9⟩, ⟨a0, a1, a2, a3⟩, ⟨b0, b1, b2, b3⟩⟩ := mbox hB.box
  have hM1 : Hid (∀ W, Keeps (fun _ => False) w1 W → Calls Try.prog 22 #[tv p.k p.n p.t cp cl cc, tv t.k t.n t.t tp tl tc] W (MFindR (findF p t) W)) := Lib.hid fun W hk => by
    obtain ⟨A, h1⟩ := (hB.next hk).ap
    obtain ⟨A', h2⟩ := (hB.next hk).at'
    exact MFind_any p t cp tp cl cc tl tc _ _ W h1 h2
  have hM2 : Hid (∀ W, Keeps (fun _ => False) w1 W → Calls Try.prog 21 #[tv p.k p.n p.t cp cl cc, tv t.k t.n t.t tp tl tc] W (MFindR (findF p t) W)) := Lib.hid fun W hk => by
    obtain ⟨A, h1⟩ := (hB.next hk).ap
    obtain ⟨A', h2⟩ := (hB.next hk).at'
    exact RFind_any p t cp tp cl cc tl tc _ _ W h1 h2
  clear hw1 h hB
  go_enter Try.func11, Try.ntmps11
  go_upto_region 1 with fail
  rw [← HW.out]
  go_wp2_with fail
  refine (hM1.out _ (Keeps.refl _ _)).mono ?_
  clear a0 a1 a2 a3 b0 b1 b2 b3 o0 o9
  rintro e W ⟨lp, ll, lc, vs, rfl, hr, hk⟩
  obtain ⟨⟨o0, o9⟩, ⟨a0, a1, a2, a3⟩, ⟨b0, b1, b2, b3⟩⟩ := mbox (HB.out.next hk).box
  have HR := Lib.hid hr
  clear hr
  go_wp2_with fail
  refine (hM2.out _ hk).mono ?_
  clear a0 a1 a2 a3 b0 b1 b2 b3 o0 o9
  rintro e W2 ⟨up, ul, uc, vs2, rfl, hr2, hk2⟩
  have hR2 := HR.out.next hk2 (fun _ h => h.elim)
  have hz := mPaths_any (findF p t) _ _ lp up ll lc ul uc vs vs2 W2 hR2 hr2
  clear hr2 hR2
  go_wp2_with fail
  refine hz.mono ?_
  clear hz
  rintro e W3 ⟨rfl, hk3⟩
  go_wp2_with fail
  go_ret
  exact ⟨rfl, ((HB.out.keeps.trans hk).trans hk2).trans hk3⟩
end Go.Proofs.Ytccoihmibkpedaa

/-!
  espalierlaw24.plays: what it answers for any operation.
-/
namespace Go.Proofs.Ytccoihmibkpedaa

open Go.RowKit

theorem mplays_any (kd : Int) (p t : Nd) (bs : List Bind) (cp tp : Option Addr) (cl cc tl tc : Nat) (bp : Option Addr) (bl bc : Nat) (w : World) (h : MOpIn w p t bs cp tp cl cc tl tc bp bl bc) (hbl : bl ≤ 17592186044416) :
    Calls Try.prog 11 #[.agg (mopc kd p t cp tp cl cc tl tc bp bl bc)] w fun e w' => e = .returned (.bool true) ∧ Keeps (fun _ => False) w w' := by
  by_cases h1 : kd = 1
  · subst h1; exact mplays1 p t bs cp tp cl cc tl tc bp bl bc w h
  by_cases h2 : kd = 2
  · subst h2; exact mplays2 p t bs cp tp cl cc tl tc bp bl bc w h
  by_cases h3 : kd = 3
  · subst h3; exact mplays3 p t bs cp tp cl cc tl tc bp bl bc w h
  by_cases h4 : kd = 4
  · subst h4; exact mplays4 p t bs cp tp cl cc tl tc bp bl bc w h hbl fun A A' w h1 h2 => rFillA_any p bs cp bp cl cc bl bc A A' w h1 h2 h.bc1 h.bc2
  by_cases h5 : kd = 5
  · subst h5; exact mplays5 p t bs cp tp cl cc tl tc bp bl bc w h
  exact mplays0 kd h1 h2 h3 h4 h5 p t bs cp tp cl cc tl tc bp bl bc w h
end Go.Proofs.Ytccoihmibkpedaa

/-!
  A list of espalierlaw24's operations in memory; the row's reading of it.
-/
namespace Go.Proofs.Ytccoihmibkpedaa

open Go.RowKit

abbrev MT : TypeId := 29
/-- The i-th operation of the list. -/
structure MOpAt (w : World) (b o : Nat) (kd : Int) (p t : Nd) (bs : List Bind) (cp tp : Option Addr) (cl cc tl tc : Nat) (bp : Option Addr) (bl bc : Nat) : Prop where
  c0 : w.cell? ⟨b, o, none⟩ = some (.int .i64 kd)
  c1 : w.cell? ⟨b, o + 1, none⟩ = some (.string p.k)
  c2 : w.cell? ⟨b, o + 2, none⟩ = some (.int .i64 p.n)
  c3 : w.cell? ⟨b, o + 3, none⟩ = some (.string p.t)
  c4 : w.cell? ⟨b, o + 4, none⟩ = some (.slice cp cl cc)
  c5 : w.cell? ⟨b, o + 5, none⟩ = some (.string t.k)
  c6 : w.cell? ⟨b, o + 6, none⟩ = some (.int .i64 t.n)
  c7 : w.cell? ⟨b, o + 7, none⟩ = some (.string t.t)
  c8 : w.cell? ⟨b, o + 8, none⟩ = some (.slice tp tl tc)
  c9 : w.cell? ⟨b, o + 9, none⟩ = some (.slice bp bl bc)
  ap : Tv w (fun b => b < w.heap.size) p.k p.t p.c cp cl cc
  at' : Tv w (fun b => b < w.heap.size) t.k t.t t.c tp tl tc
  ab : BindsAt w (fun b => b < w.heap.size) bs bp bl
  bc1 : bl ≤ bc
  bc2 : bc ≤ 9223372036854775807
  short : bl ≤ 17592186044416
theorem MOpAt.next {w w1 : World} {b o : Nat} {kd : Int} {p t : Nd} {bs : List Bind} {cp tp : Option Addr} {cl cc tl tc : Nat} {bp : Option Addr} {bl bc : Nat} (h : MOpAt w b o kd p t bs cp tp cl cc tl tc bp bl bc) (hb : b < w.heap.size) (hk : Keeps (fun _ => False) w w1) : MOpAt w1 b o kd p t bs cp tp cl cc tl tc bp bl bc := by
  have hc : ∀ k v, w.cell? ⟨b, k, none⟩ = some v → w1.cell? ⟨b, k, none⟩ = some v := fun k v hv => (hk.cell (p := ⟨b, k, none⟩) hb (fun h => h)).trans hv
  exact ⟨hc _ _ h.c0, hc _ _ h.c1, hc _ _ h.c2, hc _ _ h.c3, hc _ _ h.c4, hc _ _ h.c5, hc _ _ h.c6, hc _ _ h.c7, hc _ _ h.c8, hc _ _ h.c9, (h.ap.next hk).top, (h.at'.next hk).top, (h.ab.next hk).top, h.bc1, h.bc2, h.short⟩
theorem MOpAt.opIn {w : World} {b o : Nat} {kd : Int} {p t : Nd} {bs : List Bind} {cp tp : Option Addr} {cl cc tl tc : Nat} {bp : Option Addr} {bl bc : Nat} (h : MOpAt w b o kd p t bs cp tp cl cc tl tc bp bl bc) : MOpIn w p t bs cp tp cl cc tl tc bp bl bc := ⟨⟨_, h.ap⟩, ⟨_, h.at'⟩, ⟨_, h.ab⟩, h.bc1, h.bc2⟩
/-- A list of operations. -/
def MOps (w : World) (sp : Option Addr) (sl : Nat) : Prop := ∀ i, i < sl → ∃ b o, sp = some ⟨b, o, none⟩ ∧ b < w.heap.size ∧ ∃ kd p t bs cp tp cl cc tl tc bp bl bc, MOpAt w b (o + i * 10) kd p t bs cp tp cl cc tl tc bp bl bc
section

variable {H : Type} {enc : TypeId × Value → H} {w : World} {held : Bool} {sp : Nat → Bool}

theorem read_bnds_short {n : Nat} {cs : List Value} {x} (h : DataW.trod enc Try.prog w 0 sp held n 27 cs = some x) (hr : Reach Try.prog 27 x.1) {s : Option Addr} {sl sc : Nat} (hcs : cs = [.slice s sl sc]) : sl ≤ 17592186044416 := by
  have hu : Try.prog.underlying 27 = some (.slice TB) := Try.underlying27
  rcases DataW.trod_slice hu h with ⟨rfl, rfl⟩ | ⟨a, len, cap, elems, rest, m, hm, rfl, rfl, _, hl, hcap, hlen, hel, _, _⟩
  · simp only [List.cons.injEq, Value.slice.injEq, and_true] at hcs
    omega
  · have h8 : Try.prog.bytesOf TB = 80 := by kernel_rfl
    simp only [List.cons.injEq, Value.slice.injEq, and_true] at hcs
    obtain ⟨_, rfl, rfl⟩ := hcs
    have := hr (((elems.map (·.1)).length + (rest.map (·.1)).length) * Try.prog.bytesOf TB) (by simp only [DataW.weights, hu]; exact List.mem_cons_self ..)
    rw [h8, List.length_map] at this
    omega
/-- An operation's ten cells. -/
def IsMOp (w : World) (cs : List Value) : Prop := ∃ kd p t bs cp tp cl cc tl tc bp bl bc, cs = (mopc kd p t cp tp cl cc tl tc bp bl bc).toList ∧ Tv w (fun b => b < w.heap.size) p.k p.t p.c cp cl cc ∧ Tv w (fun b => b < w.heap.size) t.k t.t t.c tp tl tc ∧ BindsAt w (fun b => b < w.heap.size) bs bp bl ∧ bl ≤ bc ∧ bc ≤ 9223372036854775807 ∧ bl ≤ 17592186044416
set_option maxRecDepth 100000 in
theorem read_mop {n : Nat} {cs : List Value} {x} (h : DataW.trod enc Try.prog w 0 sp held n MT cs = some x) (hr : Reach Try.prog MT x.1) : IsMOp w cs := by
  have hu := Try.underlying29
  obtain ⟨xs, m, hm, rfl, hl, hlen, hf⟩ := DataW.trod_struct hu h
  have h11 : Try.prog.cellsOf MT = 10 := by kernel_rfl
  rw [h11] at hl
  have f0 : DataW.trod enc Try.prog w 0 sp held m 3 (List.take (Try.prog.cellsOf 3) (List.drop 0 cs)) = xs[0]? := hf 0 _ rfl
  have f1 : DataW.trod enc Try.prog w 0 sp held m 26 (List.take (Try.prog.cellsOf 26) (List.drop 1 cs)) = xs[1]? := hf 1 _ rfl
  have f2 : DataW.trod enc Try.prog w 0 sp held m 26 (List.take (Try.prog.cellsOf 26) (List.drop 5 cs)) = xs[2]? := hf 2 _ rfl
  have f3 : DataW.trod enc Try.prog w 0 sp held m 27 (List.take (Try.prog.cellsOf 27) (List.drop 9 cs)) = xs[3]? := hf 3 _ rfl
  clear hf
  have g1 := fun (f : TypeId) (d : DataW H) hf' hd' => hr.field (j := 1) (f := f) (d := d) hu hf' hd'
  have g2 := fun (f : TypeId) (d : DataW H) hf' hd' => hr.field (j := 2) (f := f) (d := d) hu hf' hd'
  have g3 := fun (f : TypeId) (d : DataW H) hf' hd' => hr.field (j := 3) (f := f) (d := d) hu hf' hd'
  clear hr hu h
  rw [show Try.prog.cellsOf 3 = 1 by kernel_rfl] at f0
  rw [show Try.prog.cellsOf 26 = 4 by kernel_rfl] at f1 f2
  rw [show Try.prog.cellsOf 27 = 1 by kernel_rfl] at f3
  obtain ⟨c0, c1, c2, c3, c4, c5, c6, c7, c8, c9, rfl⟩ : ∃ c0 c1 c2 c3 c4 c5 c6 c7 c8 c9, cs = [c0, c1, c2, c3, c4, c5, c6, c7, c8, c9] := by
    match cs, hl with
    | [c0, c1, c2, c3, c4, c5, c6, c7, c8, c9], _ => exact ⟨c0, c1, c2, c3, c4, c5, c6, c7, c8, c9, rfl⟩
  obtain ⟨y0, y1, y2, y3, rfl⟩ : ∃ y0 y1 y2 y3, xs = [y0, y1, y2, y3] := by
    match xs, hlen with
    | [c0, c1, c2, c3], _ => exact ⟨c0, c1, c2, c3, rfl⟩
  have f0 : DataW.trod enc Try.prog w 0 sp held m 3 [c0] = some y0 := f0
  have f1 : DataW.trod enc Try.prog w 0 sp held m 26 [c1, c2, c3, c4] = some y1 := f1
  have f2 : DataW.trod enc Try.prog w 0 sp held m 26 [c5, c6, c7, c8] = some y2 := f2
  have f3 : DataW.trod enc Try.prog w 0 sp held m 27 [c9] = some y3 := f3
  have ui : Try.prog.underlying 3 = some (.int .i64) := Try.underlying3
  obtain ⟨kd, e0, rfl, _⟩ := DataW.trod_int ui f0
  obtain rfl := (List.cons.inj e0).1
  obtain ⟨k, nn, t, f, cp, cl, cc, e1, ht, _⟩ := (read_both m).2 _ _ f1 (g1 26 _ rfl rfl)
  obtain ⟨k', nn', t', f', up, ul, uc, e2, ht', _⟩ := (read_both m).2 _ _ f2 (g2 26 _ rfl rfl)
  obtain ⟨bs, bp, bl, bc, e3, hb, hp1, hp2⟩ := read_bnds f3 (g3 27 _ rfl rfl)
  have hsh := read_bnds_short f3 (g3 27 _ rfl rfl) e3
  have e1a := (List.cons.inj e1).2
  have e1b := (List.cons.inj e1a).2
  have e1c := (List.cons.inj e1b).2
  obtain rfl := (List.cons.inj e1).1
  obtain rfl := (List.cons.inj e1a).1
  obtain rfl := (List.cons.inj e1b).1
  obtain rfl := (List.cons.inj e1c).1
  have e2a := (List.cons.inj e2).2
  have e2b := (List.cons.inj e2a).2
  have e2c := (List.cons.inj e2b).2
  obtain rfl := (List.cons.inj e2).1
  obtain rfl := (List.cons.inj e2a).1
  obtain rfl := (List.cons.inj e2b).1
  obtain rfl := (List.cons.inj e2c).1
  obtain rfl := (List.cons.inj e3).1
  exact ⟨kd, ⟨k, nn, t, f⟩, ⟨k', nn', t', f'⟩, bs, cp, up, cl, cc, ul, uc, bp, bl, bc, rfl, ht, ht', hb, hp1, hp2, hsh⟩
theorem read_mops {n : Nat} {cs : List Value} {x} (h : DataW.trod enc Try.prog w 0 sp held n 22 cs = some x) (hr : Reach Try.prog 22 x.1) :
    ∃ sp sl sc, cs = [.slice sp sl sc] ∧ MOps w sp sl ∧ sl ≤ sc ∧ sc ≤ 9223372036854775807 := by
  have hu : Try.prog.underlying 22 = some (.slice MT) := Try.underlying22
  rcases DataW.trod_slice hu h with ⟨rfl, rfl⟩ | ⟨a, len, cap, elems, rest, m, hm, rfl, rfl, _, hl, hcap, hlen, hel, _, _⟩
  · exact ⟨none, 0, 0, rfl, fun i hi => by omega, Nat.le_refl _, by omega⟩
  · have hmax : cap ≤ 9223372036854775807 := by unfold maxLen at hcap; exact hcap
    have h11 : Try.prog.cellsOf MT = 10 := by kernel_rfl
    rw [h11] at hel
    refine ⟨some a, len, cap, rfl, fun i hi => ?_, hl, hmax⟩
    have he : i < elems.length := by omega
    have := hel i hi
    rw [List.getElem?_eq_getElem he] at this
    obtain ⟨cs', h1, h2⟩ := Option.bind_eq_some_iff.1 this
    obtain ⟨kd, p, t, bs, cp, tp, cl, cc, tl, tc, bp, bl, bc, rfl, ht, ht', hb', hp1, hp2, hp3⟩ := read_mop h2 (hr.elem hu (List.mem_map_of_mem (List.getElem_mem he)))
    have g := (World.cells?_some h1).2.2
    have g0 := g 0 (by omega)
    have hsp0 : a.spot = none := by
      have he0 : 0 < elems.length := by omega
      have h0 := hel 0 (by omega)
      rw [List.getElem?_eq_getElem he0] at h0
      obtain ⟨cs0, k1, _⟩ := Option.bind_eq_some_iff.1 h0
      have k2 := (World.cells?_some k1).2.2 0 (by omega)
      have k3 : ∃ v, cs0[0]? = some v := by
        have := (World.cells?_some k1).2.1
        exact ⟨_, List.getElem?_eq_getElem (by omega)⟩
      obtain ⟨v, k3⟩ := k3
      rw [k3] at k2
      have := World.cell?_spot k2
      simpa [Addr.add] using this
    obtain ⟨b, o, s⟩ := a
    obtain rfl : s = none := hsp0
    rw [WideShapes.add_plain, WideShapes.add_plain] at g0
    refine ⟨b, o, rfl, World.block_lt_of_cell? w _ g0, kd, p, t, bs, cp, tp, cl, cc, tl, tc, bp, bl, bc, ?_⟩
    · have q : ∀ k v, (mopc kd p t cp tp cl cc tl tc bp bl bc).toList[k]? = some v → k < 10 → w.cell? ⟨b, o + i * 10 + k, none⟩ = some v := fun k v hv hk => by
        have := g k hk
        rw [hv, WideShapes.add_plain, WideShapes.add_plain] at this
        exact this
      exact ⟨q 0 _ rfl (by omega), q 1 _ rfl (by omega), q 2 _ rfl (by omega), q 3 _ rfl (by omega), q 4 _ rfl (by omega), q 5 _ rfl (by omega), q 6 _ rfl (by omega), q 7 _ rfl (by omega), q 8 _ rfl (by omega), q 9 _ rfl (by omega), ht, ht', hb', hp1, hp2, hp3⟩
end

end Go.Proofs.Ytccoihmibkpedaa
