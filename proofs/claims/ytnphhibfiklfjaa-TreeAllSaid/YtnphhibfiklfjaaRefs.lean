/-
  espalierref4.Same, Copy, At: their walks.
-/
import Derived.Test.YtnphhibfiklfjaaOver
import Derived.Test.YtnphhibfiklfjaaROwn
import Derived.Test.YtnphhibfiklfjaaEq
import Derived.StillTailTactics
import Derived.Deep.QuietTactic
import Derived.BigQuiet
import Derived.Deep.LoopGhost
set_option linter.unusedVariables false
set_option linter.unusedSimpArgs false
namespace Go.Proofs.Ytnphhibfiklfjaa
open Go.RowKit

noncomputable def sameF (x u : Nd) : Bool := decide x.small && decide u.small && eqB (one x.k x.n x.t x.c) (one u.k u.n u.t u.c)
set_option maxHeartbeats 800000 in
theorem rSame_any (x u : Nd) (cp up : Option Addr) (cl cc ul uc : Nat) (A A' : Nat → Prop) (w : World) (h : Tv w A x.k x.t x.c cp cl cc) (h' : Tv w A' u.k u.t u.c up ul uc) :
    Calls Try.prog 49 #[tv x.k x.n x.t cp cl cc, tv u.k u.n u.t up ul uc] w fun e w' => e = .returned (.bool (sameF x u)) ∧ Keeps (fun _ => False) w w' := by
  obtain ⟨w1, hw1⟩ : ∃ w1, w1 = w.alloc (.cells (four x.k x.n x.t cp cl cc) T) := ⟨_, rfl⟩
  obtain ⟨w2, hw2⟩ : ∃ w2, w2 = w1.alloc (.cells (four u.k u.n u.t up ul uc) T) := ⟨_, rfl⟩
  have hK1 : Keeps (fun _ => False) w w1 := by rw [hw1]; exact (Keeps.refl _ w).alloc _
  have hK2 : Keeps (fun _ => False) w1 w2 := by rw [hw2]; exact (Keeps.refl _ w1).alloc _
  have hs1 : w1.heap.size = w.heap.size + 1 := by rw [hw1]; simp
  have hb1 : w1.heap[w.heap.size]? = some (.cells (four x.k x.n x.t cp cl cc) T (0, 0)) := by rw [hw1]; exact heap_alloc_new _ _
  have hb1 := hK2.heap hb1
  have hb2 : w2.heap[w.heap.size + 1]? = some (.cells (four u.k u.n u.t up ul uc) T (0, 0)) := by rw [hw2, ← hs1]; exact heap_alloc_new _ _
  have hK := hK1.trans hK2
  have hC : Hid (∀ W, Keeps (fun _ => False) w2 W → (W.cell? ⟨w.heap.size, 0, none⟩ = some (.string x.k) ∧ W.cell? ⟨w.heap.size, 1, none⟩ = some (.int .i64 x.n) ∧ W.cell? ⟨w.heap.size, 2, none⟩ = some (.string x.t) ∧ W.cell? ⟨w.heap.size, 3, none⟩ = some (.slice cp cl cc)) ∧
      (W.cell? ⟨w.heap.size + 1, 0, none⟩ = some (.string u.k) ∧ W.cell? ⟨w.heap.size + 1, 1, none⟩ = some (.int .i64 u.n) ∧ W.cell? ⟨w.heap.size + 1, 2, none⟩ = some (.string u.t) ∧ W.cell? ⟨w.heap.size + 1, 3, none⟩ = some (.slice up ul uc))) := Lib.hid fun W hk => by
    obtain ⟨a0, a1, a2, a3, _⟩ := box4 (hk.heap hb1)
    obtain ⟨b0, b1, b2, b3, _⟩ := box4 (hk.heap hb2)
    exact ⟨⟨a0, a1, a2, a3⟩, ⟨b0, b1, b2, b3⟩⟩
  have hS1 : Hid (∀ W, Keeps (fun _ => False) w2 W → Calls Try.prog 43 #[tv x.k x.n x.t cp cl cc] W fun e w' => e = .returned (.bool (decide x.small)) ∧ Keeps (fun _ => False) W w') := Lib.hid fun W hk => rSmall_any x cp cl cc _ W ((h.next hK).next hk)
  have hS2 : Hid (∀ W, Keeps (fun _ => False) w2 W → Calls Try.prog 43 #[tv u.k u.n u.t up ul uc] W fun e w' => e = .returned (.bool (decide u.small)) ∧ Keeps (fun _ => False) W w') := Lib.hid fun W hk => rSmall_any u up ul uc _ W ((h'.next hK).next hk)
  have hE : Hid (∀ W, Keeps (fun _ => False) w2 W → Calls Try.prog 17 #[tv x.k x.n x.t cp cl cc, tv u.k u.n u.t up ul uc] W fun e w' => e = .returned (.bool (eqB (one x.k x.n x.t x.c) (one u.k u.n u.t u.c))) ∧ Keeps (fun _ => False) W w') := Lib.hid fun W hk =>
    Eq_any (x.c.nodes + 1) x.k u.k x.n u.n x.t u.t x.c u.c _ _ cp up cl cc ul uc W (by omega) ((h.next hK).next hk) ((h'.next hK).next hk)
  have hF : Hid (sameF x u = (decide x.small && decide u.small && eqB (one x.k x.n x.t x.c) (one u.k u.n u.t u.c))) := rfl
  obtain ⟨a, ha⟩ : ∃ a, decide x.small = a := ⟨_, rfl⟩
  obtain ⟨b, hb⟩ : ∃ a, decide u.small = a := ⟨_, rfl⟩
  obtain ⟨c, hc⟩ : ∃ a, eqB (one x.k x.n x.t x.c) (one u.k u.n u.t u.c) = a := ⟨_, rfl⟩
  rw [ha] at hS1 hF
  rw [hb] at hS2 hF
  rw [hc] at hE hF
  obtain ⟨⟨a0, a1, a2, a3⟩, _⟩ := hC.out _ (Keeps.refl _ _)
  have HW := Lib.hid hw2
  have HW1 := Lib.hid hw1
  have hk0 : Keeps (fun _ => False) w2 w2 := Keeps.refl _ _
  rw [hw2, hw1] at a0 a1 a2 a3
  clear ha hb hc hw1 hw2 hb1 hb2 h h'
  go_enter Try.func49, Try.ntmps49
  go_wp2_with fail
  rw [← HW1.out, ← HW.out]
  refine (hS1.out _ hk0).mono ?_
  clear a0 a1 a2 a3
  rintro e W ⟨rfl, hk⟩
  cases a with
  | false =>
    go_wp2_with fail
    go_ret
    exact ⟨by rw [hF.out]; rfl, hK.trans hk⟩
  | true =>
    obtain ⟨_, ⟨b0, b1, b2, b3⟩⟩ := hC.out _ hk
    go_wp2_with fail
    refine (hS2.out _ hk).mono ?_
    clear b0 b1 b2 b3
    rintro e W2 ⟨rfl, hk2⟩
    have hk := hk.trans hk2
    cases b with
    | false =>
      go_wp2_with fail
      go_ret
      exact ⟨by rw [hF.out]; rfl, hK.trans hk⟩
    | true =>
      obtain ⟨⟨a0, a1, a2, a3⟩, ⟨b0, b1, b2, b3⟩⟩ := hC.out _ hk
      go_wp2_with fail
      refine (hE.out _ hk).mono ?_
      clear a0 a1 a2 a3 b0 b1 b2 b3
      rintro e W3 ⟨rfl, hk3⟩
      have hk := hk.trans hk3
      go_wp2_with fail
      go_ret
      exact ⟨by rw [hF.out]; simp, hK.trans hk⟩

/-- A tree of its own, stored into the result's box: the function's end. -/
theorem TreeRes.stored {w W : World} {x : Nd} {n : Int} {R : Nat} {cp : Option Addr} {cl cc : Nat} {bs : List Nat} {D : Nat} (hR : w.heap.size ≤ R) (hRD : R < D) (hD : w.heap.size ≤ D) (ho : Own W x.c cp cl cc bs) (hn : News W D bs) (hs : szok x.k x.t) (hk : Keeps (fun _ => False) w W) :
    TreeRes w (x, n) (.returned (.tuple #[tv x.k x.n x.t cp cl cc, .int .i64 n])) ((((W.setCell ⟨R, 0, none⟩ (.string x.k)).setCell ⟨R, 1, none⟩ (.int .i64 x.n)).setCell ⟨R, 2, none⟩ (.string x.t)).setCell ⟨R, 3, none⟩ (.slice cp cl cc)) := by
  have h4 := Keeps.four W R (.string x.k) (.int .i64 x.n) (.string x.t) (.slice cp cl cc)
  exact ⟨cp, cl, cc, bs, rfl, ho.keeps h4 (fun b hb => ⟨hn.hi b hb, fun e => by have := hn.lo b hb; omega⟩), (hn.keeps h4).mono hD, hs, hk.trans' h4 (fun b hb hl => by omega)⟩

set_option maxHeartbeats 800000 in
theorem rCopy_any (x : Nd) (cp : Option Addr) (cl cc : Nat) (A : Nat → Prop) (w : World) (h : Tv w A x.k x.t x.c cp cl cc) :
   Calls Try.prog 50 #[tv x.k x.n x.t cp cl cc] w (TreeRes w (copyF x)) := by
  obtain ⟨w1, hw1⟩ : ∃ w1, w1 = w.alloc (.cells (four x.k x.n x.t cp cl cc) T) := ⟨_, rfl⟩
  obtain ⟨w2, hw2⟩ : ∃ w2, w2 = w1.alloc (.cells (four e0 0 e0 none 0 0) T) := ⟨_, rfl⟩
  have hK1 : Keeps (fun _ => False) w w1 := by rw [hw1]; exact (Keeps.refl _ w).alloc _
  have hK2 : Keeps (fun _ => False) w1 w2 := by rw [hw2]; exact (Keeps.refl _ w1).alloc _
  have hs1 : w1.heap.size = w.heap.size + 1 := by rw [hw1]; simp
  have hs2 : w2.heap.size = w.heap.size + 2 := by rw [hw2]; simp [hs1]
  have hb1 : w1.heap[w.heap.size]? = some (.cells (four x.k x.n x.t cp cl cc) T (0, 0)) := by rw [hw1]; exact heap_alloc_new _ _
  have hb1 := hK2.heap hb1
  have hr2 : w2.heap[w.heap.size + 1]? = some (.cells (four e0 0 e0 none 0 0) T (0, 0)) := by rw [hw2, ← hs1]; exact heap_alloc_new _ _
  have hK := hK1.trans hK2
  have ht2 := h.next hK
  have hz := rSmall_any x cp cl cc _ w2 ht2
  obtain ⟨a0, a1, a2, a3, _⟩ := box4 hb1
  have HW := Lib.hid hw2
  have HW1 := Lib.hid hw1
  rw [hw2, hw1] at a0 a1 a2 a3
  clear hw1 hw2
  by_cases hs : x.small
  · have hcf : Hid (copyF x = (x, 0)) := by show copyF x = (x, 0); rw [copyF, if_pos hs]
    have hsn : x.c.nodes + 1 ≤ 100000 := by have := hs.1; simp only [Nd.nodes] at this; omega
    simp only [hs, decide_true] at hz
    clear hs
    go_enter Try.func50, Try.ntmps50
    go_wp2_with fail
    rw [← HW1.out, ← HW.out]
    refine hz.mono ?_
    clear hz a0 a1 a2 a3
    rintro e W ⟨rfl, hk⟩
    obtain ⟨a0, a1, a2, a3, _⟩ := box4 (hk.heap hb1)
    have ho := rOwn_any (x.c.nodes + 1) hsn x.k x.n x.t x.c _ cp cl cc W (by omega) (ht2.next hk)
    go_wp2_with fail
    refine ho.mono ?_
    clear ho a0 a1 a2 a3
    rintro e W2 ⟨cp2, cl2, cc2, bs, rfl, hO, hN, hk2⟩
    have hk' := hk.trans hk2
    obtain ⟨r0, r1, r2, r3, f0, f1, f2, f3⟩ := box4 (hk'.heap hr2)
    have hsW := hk.size
    have hfin := TreeRes.stored (n := 0) (R := w.heap.size + 1) (by omega) (by omega) (by omega) hO hN h.size (hK.trans hk')
    have HF := Lib.hid hfin
    clear hfin hO hN hk hk2 hk'
    go_wp2_with fail
    refine bodyPost_ret (v := .tuple #[tv x.k x.n x.t cp2 cl2 cc2, .int .i64 0]) (by simp [results, Try.results50, go_sem, r0, r1, r2, r3]) rfl ?_
    rw [hcf.out]
    exact HF.out
  · have hcf : Hid (copyF x = (zeroNd, 2)) := by show copyF x = (zeroNd, 2); rw [copyF, if_neg hs]
    simp only [hs, decide_false] at hz
    clear hs
    go_enter Try.func50, Try.ntmps50
    go_wp2_with fail
    rw [← HW1.out, ← HW.out]
    refine hz.mono ?_
    clear hz a0 a1 a2 a3
    rintro e W ⟨rfl, hk⟩
    obtain ⟨r0, r1, r2, r3, f0, f1, f2, f3⟩ := box4 (hk.heap hr2)
    have hsW := hk.size
    go_wp2_with fail
    refine bodyPost_ret (v := .tuple #[tv e0 0 e0 none 0 0, .int .i64 2]) (by simp [results, Try.results50, go_sem, r0, r1, r2, r3]) rfl ?_
    rw [hcf.out]
    exact TreeRes.zero ((hK.trans hk).trans' (Keeps.four _ _ _ _ _ _) (fun b hb hl => by omega))

/-- A kid by a number. -/
theorem kid_cases (c : Fo) (i : Int) : (c.kid i = none ∧ (i < 0 ∨ (c.len : Int) ≤ i)) ∨ ∃ k n t s r, c.drop i.toNat = .cons k n t s r ∧ c.kid i = some ⟨k, n, t, s⟩ ∧ 0 ≤ i ∧ i < (c.len : Int) := by
  by_cases h0 : i < 0
  · exact .inl ⟨by rw [Fo.kid, if_pos h0], .inl h0⟩
  · by_cases h1 : i.toNat < c.len
    · obtain ⟨k, n, t, s, r, hd⟩ := Fo.drop_lt i.toNat c h1
      exact .inr ⟨k, n, t, s, r, hd, by rw [Fo.kid, if_neg h0]; exact Fo.at?_drop hd, by omega, by omega⟩
    · exact .inl ⟨by rw [Fo.kid, if_neg h0]; exact Fo.at?_none (by omega), .inr (by omega)⟩

set_option maxRecDepth 100000 in
set_option maxHeartbeats 1600000 in
theorem rAt_any (x : Nd) (path : List Int) (cp : Option Addr) (cl cc : Nat) (A A' : Nat → Prop) (pp : Option Addr) (pl pc : Nat) (w : World) (h : Tv w A x.k x.t x.c cp cl cc) (hp : Ints w A' path pp pl) :
   Calls Try.prog 51 #[tv x.k x.n x.t cp cl cc, .slice pp pl pc] w (TreeRes w (atF x path)) := by
  obtain ⟨w1, hw1⟩ : ∃ w1, w1 = w.alloc (.cells (four x.k x.n x.t cp cl cc) T) := ⟨_, rfl⟩
  obtain ⟨w2, hw2⟩ : ∃ w2, w2 = w1.alloc (.cells (four e0 0 e0 none 0 0) T) := ⟨_, rfl⟩
  have hK1 : Keeps (fun _ => False) w w1 := by rw [hw1]; exact (Keeps.refl _ w).alloc _
  have hK2 : Keeps (fun _ => False) w1 w2 := by rw [hw2]; exact (Keeps.refl _ w1).alloc _
  have hs1 : w1.heap.size = w.heap.size + 1 := by rw [hw1]; simp
  have hs2 : w2.heap.size = w.heap.size + 2 := by rw [hw2]; simp [hs1]
  have hb1 : w1.heap[w.heap.size]? = some (.cells (four x.k x.n x.t cp cl cc) T (0, 0)) := by rw [hw1]; exact heap_alloc_new _ _
  have hb1 := hK2.heap hb1
  have hr2 : w2.heap[w.heap.size + 1]? = some (.cells (four e0 0 e0 none 0 0) T (0, 0)) := by rw [hw2, ← hs1]; exact heap_alloc_new _ _
  have hK := hK1.trans hK2
  have hp2 := hp.top.keeps hK (fun _ _ h => h)
  have ht2 := h.top.next hK
  have hz := rSmall_any x cp cl cc _ w2 ht2
  obtain ⟨a0, a1, a2, a3, _⟩ := box4 hb1
  have HW := Lib.hid hw2
  have HW1 := Lib.hid hw1
  rw [hw2, hw1] at a0 a1 a2 a3
  have hlen := hp.len
  have hple := hp.le
  have HLP := Lib.hid hlen
  clear hw1 hw2 hlen
  by_cases hs : x.small
  · have hcf : Hid (atF x path = found (sub path x)) := by show atF x path = found (sub path x); rw [atF, if_pos hs]
    have hsn : x.c.nodes + 1 ≤ 100000 := by have := hs.1; simp only [Nd.nodes] at this; omega
    simp only [hs, decide_true] at hz
    clear hs
    go_enter Try.func51, Try.ntmps51
    go_wp2_with fail
    rw [← HW1.out, ← HW.out]
    refine hz.mono ?_
    clear hz a0 a1 a2 a3
    rintro e W ⟨rfl, hk⟩
    have hkW := hK.trans hk
    have hbW := hk.heap hb1
    have hrW := hk.heap hr2
    have htW := ht2.next hk
    have hpW := hp2.keeps hk (fun _ _ h => h)
    have hsW := hk.size
    go_wp2_with fail
    go_loopg [6] pl (fun m i W' => ∃ (j : Nat) (y : Nd) (yp : Option Addr) (yl yc : Nat), j + m = pl ∧ i = .int .i64 j ∧ sub path x = sub (path.drop j) y ∧ y.c.nodes ≤ x.c.nodes ∧ W'.heap[w.heap.size]? = some (.cells (four y.k y.n y.t yp yl yc) T (0, 0)) ∧ Tv W' (fun b => b < w.heap.size) y.k y.t y.c yp yl yc ∧ Keeps (fun b => b = w.heap.size) W W')
    case atStart => exact ⟨0, x, cp, cl, cc, by omega, rfl, rfl, Nat.le_refl _, hbW, htW, Keeps.refl _ _⟩
    case round =>
      obtain ⟨j, y, yp, yl, yc, hjm, rfl, hsub, hyn, hbr, htr, hkr⟩ := hrel
      have hrr := (hkr.block _ (heap_lt hrW) (by omega)).trans hrW
      have hpr := hpW.keeps hkr (fun b hb e => by omega)
      have hsr := hkr.size
      obtain ⟨b0, b1, b2, b3, q0, q1, q2, q3⟩ := box4 hbr
      have HJ := Lib.hid hjm
      have HSB := Lib.hid hsub
      have HKR := Lib.hid hkr
      by_cases hlt : j < pl
      · obtain ⟨i, r, hd, hd1, pb, po, rfl, _, hpb⟩ := hpr.dropLt hlt
        have c0 := hpr.at_ hd
        have HD := Lib.hid hd
        have HD1 := Lib.hid hd1
        have hi0' : (0 : Int) ≤ (j : Int) := Int.natCast_nonneg _
        have hi1 : (j : Int) < (pl : Int) := by omega
        have hyl := htr.len
        have hlc := htr.lc
        have hcm := htr.cm
        clear hd hd1 hjm hsub hkr hpr
        rcases kid_cases y.c i with ⟨hk0, hout⟩ | ⟨k1, n1, t1, s1, r1, hdr, hk1, hge, hlt1⟩
        · have hfin : Hid (atF x path = (zeroNd, 23)) := by
            show atF x path = (zeroNd, 23)
            rw [hcf.out, HSB.out, HD.out]
            simp [sub, hk0, found]
          rw [hyl] at hout
          obtain ⟨r0, r1, r2, r3, f0, f1, f2, f3⟩ := box4 hrr
          have HKZ : Hid (∀ m, Keeps (fun _ => False) w ((((wr.drewN m).setCell ⟨w.heap.size + 1, 0, none⟩ (.string e0)).setCell ⟨w.heap.size + 1, 1, none⟩ (.int .i64 0)).setCell ⟨w.heap.size + 1, 2, none⟩ (.string e0) |>.setCell ⟨w.heap.size + 1, 3, none⟩ (.slice none 0 0))) := Lib.hid fun m =>
            ((hkW.trans' HKR.out (fun b hb hl => by omega)).drewN m).trans' (Keeps.four _ _ _ _ _ _) (fun b hb hl => by omega)
          clear hk0 htr hbr hrr hyl
          rcases hout with hneg | hbig
          · have g1 : decide (i < 0) = true := by simpa using hneg
            go_wp2_with fail
            go_quiet (fail)
            go_wp2_with fail
            refine bodyPost_ret (v := .tuple #[tv e0 0 e0 none 0 0, .int .i64 23]) (by simp [results, Try.results51, go_sem, r0, r1, r2, r3]) rfl ?_
            rw [hfin.out]
            exact TreeRes.zero (HKZ.out _)
          · by_cases hneg : i < 0
            · omega
            · have g1 : decide (i < 0) = false := by simpa using hneg
              have g2 : decide ((yl : Int) ≤ i) = true := by simpa using hbig
              go_wp2_with fail
              go_quiet (fail)
              go_wp2_with fail
              refine bodyPost_ret (v := .tuple #[tv e0 0 e0 none 0 0, .int .i64 23]) (by simp [results, Try.results51, go_sem, r0, r1, r2, r3]) rfl ?_
              rw [hfin.out]
              exact TreeRes.zero (HKZ.out _)
        · obtain ⟨kb, ko, rfl, hAk, hkb⟩ := htr.kids.hasAddr (by omega)
          obtain ⟨cp1, cl1, cc1, hn1⟩ := htr.kids.at_ i.toNat hdr (by omega)
          have hsub1 : Hid (sub path x = sub (path.drop (j + 1)) ⟨k1, n1, t1, s1⟩) := by
            show sub path x = sub (path.drop (j + 1)) ⟨k1, n1, t1, s1⟩
            rw [HSB.out, HD.out, HD1.out]
            simp [sub, hk1]
          have hsn1 : s1.nodes ≤ x.c.nodes := by
            have h1 := Fo.nodes_drop i.toNat y.c
            rw [hdr] at h1
            simp only [Fo.nodes] at h1
            omega
          have a0 := hn1.c0
          have a1 := hn1.c1
          have a2 := hn1.c2
          have a3 := hn1.c3
          have htv1 := Lib.hid hn1.tv
          have hbrk := Lib.hid hbr
          have g1 : decide (i < 0) = false := by simp; omega
          have g2 : decide ((yl : Int) ≤ i) = false := by simp; omega
          have hi2 : 0 ≤ i := hge
          have hi3 : i < (yl : Int) := by omega
          clear hk1 hdr hn1 htr hbr hrr hyl hyn
          go_wp2_with fail
          go_quiet (fail)
          go_wp2_with fail
          obtain ⟨wq, hwq⟩ : ∃ V, V = wr.drewN nq := ⟨_, rfl⟩
          have hkq : Keeps (fun _ => False) wr wq := by rw [hwq]; exact (Keeps.refl _ wr).drewN _
          have hbq : wq.heap[w.heap.size]? = some (.cells (four y.k y.n y.t (some ⟨kb, ko, none⟩) yl yc) T (0, 0)) := hkq.heap hbrk.out
          have c0 : wq.cell? ⟨pb, po + j, none⟩ = _ := (hkq.cell (p := ⟨pb, po + j, none⟩) hpb (fun h => h)).trans c0
          have a0 : wq.cell? ⟨kb, ko + i.toNat * 4, none⟩ = _ := (hkq.cell (p := ⟨kb, ko + i.toNat * 4, none⟩) hkb (fun h => h)).trans a0
          have a1 : wq.cell? ⟨kb, ko + i.toNat * 4 + 1, none⟩ = _ := (hkq.cell (p := ⟨kb, ko + i.toNat * 4 + 1, none⟩) hkb (fun h => h)).trans a1
          have a2 : wq.cell? ⟨kb, ko + i.toNat * 4 + 2, none⟩ = _ := (hkq.cell (p := ⟨kb, ko + i.toNat * 4 + 2, none⟩) hkb (fun h => h)).trans a2
          have a3 : wq.cell? ⟨kb, ko + i.toNat * 4 + 3, none⟩ = _ := (hkq.cell (p := ⟨kb, ko + i.toNat * 4 + 3, none⟩) hkb (fun h => h)).trans a3
          obtain ⟨b0, b1, b2, b3, q0, q1, q2, q3⟩ := box4 hbq
          have hne : kb ≠ w.heap.size := by have : kb < w.heap.size := hAk; omega
          rw [← hwq]
          have HKQ := Lib.hid hkq
          have HBQ := Lib.hid hbq
          clear hwq hkq hbq
          go_still_tail 8, (by kernel_rfl)
          change wpList _ _ _ _ _ wq.drew
          go_wp2_with fail
          go_roundg (gk - 1)
          case measure => have := HJ.out; omega
          case rel =>
            have h4 := Keeps.four wq w.heap.size (.string k1) (.int .i64 n1) (.string t1) (.slice cp1 cl1 cc1)
            have hkd := ((HKQ.out.mono (S' := fun b => b = w.heap.size) fun _ h _ => h.elim).trans h4).drew
            refine ⟨j + 1, ⟨k1, n1, t1, s1⟩, cp1, cl1, cc1, by have := HJ.out; omega, by go_num, hsub1.out, hsn1, ?_, htv1.out.keeps hkd (fun b hb e => by omega), HKR.out.trans hkd⟩
            show ((((wq.setCell ⟨w.heap.size, 0, none⟩ (.string k1)).setCell ⟨w.heap.size, 1, none⟩ (.int .i64 n1)).setCell ⟨w.heap.size, 2, none⟩ (.string t1)).setCell ⟨w.heap.size, 3, none⟩ (.slice cp1 cl1 cc1)).heap[w.heap.size]? = _
            rw [heap_set (heap_set (heap_set (heap_set HBQ.out _ _) _ _) _ _) _ _]
            rfl
      · have hfd : sub path x = some y := by
          rw [hsub, List.drop_eq_nil_of_le (by have := HLP.out; omega)]
          rfl
        have hfin : Hid (atF x path = (y, 0)) := by
          show atF x path = (y, 0)
          rw [hcf.out, hfd]
          rfl
        have ho := rOwn_any (y.c.nodes + 1) (by omega) y.k y.n y.t y.c _ yp yl yc wr (by omega) htr
        have htsz := htr.size
        clear hfd hsub hbr hrr hpr hjm hkr htr
        go_wp2_with fail
        refine ho.mono ?_
        clear ho b0 b1 b2 b3 q0 q1 q2 q3
        rintro e W2 ⟨cp2, cl2, cc2, bs, rfl, hO, hN, hk2⟩
        have hrr2 := hk2.heap ((HKR.out.block _ (heap_lt hrW) (by omega)).trans hrW)
        obtain ⟨r0, r1, r2, r3, f0, f1, f2, f3⟩ := box4 hrr2
        have hfin2 := TreeRes.stored (n := 0) (R := w.heap.size + 1) (by omega) (by omega) (by omega) hO hN htsz ((hkW.trans' HKR.out (fun b hb hl => by omega)).trans hk2)
        have HF := Lib.hid hfin2
        clear hfin2 hO hN hk2 hrr2
        go_wp2_with fail
        refine bodyPost_ret (v := .tuple #[tv y.k y.n y.t cp2 cl2 cc2, .int .i64 0]) (by simp [results, Try.results51, go_sem, r0, r1, r2, r3]) rfl ?_
        rw [hfin.out]
        exact HF.out
  · have hcf : Hid (atF x path = (zeroNd, 2)) := by show atF x path = (zeroNd, 2); rw [atF, if_neg hs]
    simp only [hs, decide_false] at hz
    clear hs
    go_enter Try.func51, Try.ntmps51
    go_wp2_with fail
    rw [← HW1.out, ← HW.out]
    refine hz.mono ?_
    clear hz a0 a1 a2 a3
    rintro e W ⟨rfl, hk⟩
    obtain ⟨r0, r1, r2, r3, f0, f1, f2, f3⟩ := box4 (hk.heap hr2)
    have hsW := hk.size
    go_wp2_with fail
    refine bodyPost_ret (v := .tuple #[tv e0 0 e0 none 0 0, .int .i64 2]) (by simp [results, Try.results51, go_sem, r0, r1, r2, r3]) rfl ?_
    rw [hcf.out]
    exact TreeRes.zero ((hK.trans hk).trans' (Keeps.four _ _ _ _ _ _) (fun b hb hl => by omega))
end Go.Proofs.Ytnphhibfiklfjaa
