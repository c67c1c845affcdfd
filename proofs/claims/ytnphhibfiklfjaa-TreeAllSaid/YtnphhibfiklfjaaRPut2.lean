/-
  espalierref4.Put: its walk.
-/
import Derived.Test.YtnphhibfiklfjaaRPut
set_option linter.unusedVariables false
set_option linter.unusedSimpArgs false
namespace Go.Proofs.Ytnphhibfiklfjaa
open Go.RowKit

/-- The result's box, written over with nothing. -/
theorem TreeRes.none_ {w W : World} {n : Int} {R : Nat} (hR : w.heap.size ≤ R) (hk : Keeps (fun _ => False) w W) :
    TreeRes w (zeroNd, n) (.returned (.tuple #[tv e0 0 e0 none 0 0, .int .i64 n])) ((((W.setCell ⟨R, 0, none⟩ (.string e0)).setCell ⟨R, 1, none⟩ (.int .i64 0)).setCell ⟨R, 2, none⟩ (.string e0)).setCell ⟨R, 3, none⟩ (.slice none 0 0)) :=
  TreeRes.zero (hk.trans' (Keeps.four _ _ _ _ _ _) (fun b hb hl => by omega))

set_option maxRecDepth 100000 in
set_option maxHeartbeats 3200000 in
theorem rPut_any (x u : Nd) (path : List Int) (cp up : Option Addr) (cl cc ul uc : Nat) (A A' A'' : Nat → Prop) (pp : Option Addr) (pl pc : Nat) (w : World) (h : Tv w A x.k x.t x.c cp cl cc) (hp : Ints w A' path pp pl) (hpl : pl ≤ pc) (hpc : pc ≤ 9223372036854775807) (hu : Tv w A'' u.k u.t u.c up ul uc) :
   Calls Try.prog 52 #[tv x.k x.n x.t cp cl cc, .slice pp pl pc, tv u.k u.n u.t up ul uc] w (TreeRes w (putF x path u)) := by
  obtain ⟨w1, hw1⟩ : ∃ w1, w1 = ((w.alloc (.cells (four x.k x.n x.t cp cl cc) T)).alloc (.cells (four u.k u.n u.t up ul uc) T)).alloc (.cells (four e0 0 e0 none 0 0) T) := ⟨_, rfl⟩
  have hB : PB w w1 x u cp up cl cc ul uc := by rw [hw1]; exact PB.start _ _ _ _ _ _ _ _ _
  have hs1 : w1.heap.size = w.heap.size + 3 := by rw [hw1]; simp
  have ht := h.top
  have hut := hu.top
  have hpt := hp.top
  have hC : Hid (∀ W, PB w W x u cp up cl cc ul uc → (W.cell? ⟨w.heap.size, 0, none⟩ = some (.string x.k) ∧ W.cell? ⟨w.heap.size, 1, none⟩ = some (.int .i64 x.n) ∧ W.cell? ⟨w.heap.size, 2, none⟩ = some (.string x.t) ∧ W.cell? ⟨w.heap.size, 3, none⟩ = some (.slice cp cl cc)) ∧
      (W.cell? ⟨w.heap.size + 1, 0, none⟩ = some (.string u.k) ∧ W.cell? ⟨w.heap.size + 1, 1, none⟩ = some (.int .i64 u.n) ∧ W.cell? ⟨w.heap.size + 1, 2, none⟩ = some (.string u.t) ∧ W.cell? ⟨w.heap.size + 1, 3, none⟩ = some (.slice up ul uc))) := Lib.hid fun W hk => by
    obtain ⟨a0, a1, a2, a3, _⟩ := box4 hk.b0
    obtain ⟨b0, b1, b2, b3, _⟩ := box4 hk.b1
    exact ⟨⟨a0, a1, a2, a3⟩, ⟨b0, b1, b2, b3⟩⟩
  have hR : Hid (∀ W, PB w W x u cp up cl cc ul uc → (W.cell? ⟨w.heap.size + 2, 0, none⟩ = some (.string e0) ∧ W.cell? ⟨w.heap.size + 2, 1, none⟩ = some (.int .i64 0) ∧ W.cell? ⟨w.heap.size + 2, 2, none⟩ = some (.string e0) ∧ W.cell? ⟨w.heap.size + 2, 3, none⟩ = some (.slice none 0 0)) ∧
      (W.frozen? ⟨w.heap.size + 2, 0, none⟩ = false ∧ W.frozen? ⟨w.heap.size + 2, 1, none⟩ = false ∧ W.frozen? ⟨w.heap.size + 2, 2, none⟩ = false ∧ W.frozen? ⟨w.heap.size + 2, 3, none⟩ = false)) := Lib.hid fun W hk => by
    obtain ⟨a0, a1, a2, a3, b0, b1, b2, b3⟩ := box4 hk.b2
    exact ⟨⟨a0, a1, a2, a3⟩, ⟨b0, b1, b2, b3⟩⟩
  have hS1 : Hid (∀ W, PB w W x u cp up cl cc ul uc → Calls Try.prog 43 #[tv x.k x.n x.t cp cl cc] W fun e w' => e = .returned (.bool (decide x.small)) ∧ Keeps (fun _ => False) W w') := Lib.hid fun W hk => rSmall_any x cp cl cc _ W (ht.next hk.keeps)
  have hS2 : Hid (∀ W, PB w W x u cp up cl cc ul uc → Calls Try.prog 43 #[tv u.k u.n u.t up ul uc] W fun e w' => e = .returned (.bool (decide u.small)) ∧ Keeps (fun _ => False) W w') := Lib.hid fun W hk => rSmall_any u up ul uc _ W (hut.next hk.keeps)
  have hAt : Hid (∀ W, PB w W x u cp up cl cc ul uc → Calls Try.prog 51 #[tv x.k x.n x.t cp cl cc, .slice pp pl pc] W (TreeRes W (atF x path))) := Lib.hid fun W hk => rAt_any x path cp cl cc _ _ pp pl pc W (ht.next hk.keeps) (hpt.keeps hk.keeps (fun _ _ h => h))
  have hPf : Hid (putF x path u = if x.small ∧ u.small then (if (sub path x).isSome then (if (put path x u).small then (put path x u, 0) else (zeroNd, 2)) else (zeroNd, 23)) else (zeroNd, 2)) := rfl
  have hPt : Hid (∀ W y, PB w W x u cp up cl cc ul uc → sub path x = some y → x.small → Calls Try.prog 66 #[tv x.k x.n x.t cp cl cc, .slice pp pl pc, tv u.k u.n u.t up ul uc] W (TreeV w.heap.size W (put path x u))) := Lib.hid fun W y hk hy hsm =>
    rput_any path x u y cp up cl cc ul uc _ w.heap.size pp pl pc W hy (by have := hsm.1; simp only [Nd.nodes] at this; omega) hk.keeps.size (ht.next hk.keeps) (hpt.keeps hk.keeps (fun _ _ h => h)) hpl hpc (hut.next hk.keeps)
  have HW := Lib.hid hw1
  clear hw1 h hp hu ht hut hpt hpl hpc
  obtain ⟨⟨a0, a1, a2, a3⟩, _⟩ := hC.out _ hB
  by_cases hs : x.small
  · by_cases hs' : u.small
    · have hsm : Hid (x.small) := Lib.hid hs
      have hput : Hid (putF x path u = (if (sub path x).isSome then (if (put path x u).small then (put path x u, 0) else (zeroNd, 2)) else (zeroNd, 23))) := by
        show putF x path u = _
        rw [hPf.out, if_pos ⟨hs, hs'⟩]
      simp only [hs, decide_true] at hS1
      simp only [hs', decide_true] at hS2
      have hSm : Hid (∀ W cp cl cc A, Tv W A (put path x u).k (put path x u).t (put path x u).c cp cl cc → Calls Try.prog 43 #[tv (put path x u).k (put path x u).n (put path x u).t cp cl cc] W fun e w' => e = .returned (.bool (decide (put path x u).small)) ∧ Keeps (fun _ => False) W w') := Lib.hid fun W cp cl cc A ht => rSmall_any _ cp cl cc _ W ht
      have hOw : Hid (∀ W cp cl cc A, (put path x u).small → Tv W A (put path x u).k (put path x u).t (put path x u).c cp cl cc → Calls Try.prog 63 #[tv (put path x u).k (put path x u).n (put path x u).t cp cl cc] W (TwinR (put path x u).k (put path x u).n (put path x u).t (put path x u).c W)) := Lib.hid fun W cp cl cc A hsm ht =>
        rOwn_any ((put path x u).c.nodes + 1) (by have := hsm.1; simp only [Nd.nodes] at this; omega) _ _ _ _ _ cp cl cc W (by omega) ht
      clear hs hs' hPf
      go_enter Try.func52, Try.ntmps52
      go_upto_region 1 with fail
      rw [← HW.out]
      go_wp2_with fail
      refine (hS1.out _ hB).mono ?_
      clear a0 a1 a2 a3
      rintro e W ⟨rfl, hk⟩
      have hB := hB.next hk
      obtain ⟨_, ⟨b0, b1, b2, b3⟩⟩ := hC.out _ hB
      go_wp2_with fail
      refine (hS2.out _ hB).mono ?_
      clear b0 b1 b2 b3 hk
      rintro e W2 ⟨rfl, hk⟩
      have hB := hB.next hk
      obtain ⟨⟨a0, a1, a2, a3⟩, _⟩ := hC.out _ hB
      go_wp2_with fail
      have hAt := hAt.out _ hB
      rw [atF, if_pos hsm.out] at hAt
      cases hy : sub path x with
      | none =>
        have hf : Hid (putF x path u = (zeroNd, 23)) := by show putF x path u = _; rw [hput.out, hy]; rfl
        rw [hy] at hAt
        clear hy
        refine hAt.mono ?_
        clear hAt a0 a1 a2 a3 hk
        rintro e W3 ⟨cp3, cl3, cc3, bs3, rfl, _, _, _, hk⟩
        have hB := hB.next hk
        obtain ⟨W4, hW4⟩ : ∃ W4, W4 = W3.alloc (.cells (four zeroNd.k zeroNd.n zeroNd.t cp3 cl3 cc3) T) := ⟨_, rfl⟩
        have hk4 : Keeps (fun _ => False) W3 W4 := by rw [hW4]; exact (Keeps.refl _ _).alloc _
        have hB := hB.next hk4
        obtain ⟨⟨r0, r1, r2, r3⟩, ⟨f0, f1, f2, f3⟩⟩ := hR.out _ hB
        have HW4 := Lib.hid hW4
        clear hk hk4 hW4
        simp only [found]
        go_upto_region 4 with fail
        rw [← HW4.out]
        go_wp2_with fail
        refine bodyPost_ret (v := .tuple #[tv e0 0 e0 none 0 0, .int .i64 23]) (by simp [results, Try.results52, go_sem, r0, r1, r2, r3]) rfl ?_
        rw [hf.out]
        exact TreeRes.none_ (by omega) hB.keeps
      | some y =>
        have hput : Hid (putF x path u = (if (put path x u).small then (put path x u, 0) else (zeroNd, 2))) := by show putF x path u = _; rw [hput.out, hy]; rfl
        rw [hy] at hAt
        have HY := Lib.hid hy
        clear hy
        refine hAt.mono ?_
        clear hAt a0 a1 a2 a3 hk
        rintro e W3 ⟨cp3, cl3, cc3, bs3, rfl, _, _, _, hk⟩
        have hB := hB.next hk
        obtain ⟨W4, hW4⟩ : ∃ W4, W4 = W3.alloc (.cells (four y.k y.n y.t cp3 cl3 cc3) T) := ⟨_, rfl⟩
        have hk4 : Keeps (fun _ => False) W3 W4 := by rw [hW4]; exact (Keeps.refl _ _).alloc _
        have hB := hB.next hk4
        obtain ⟨⟨a0, a1, a2, a3⟩, ⟨b0, b1, b2, b3⟩⟩ := hC.out _ hB
        have HW4 := Lib.hid hW4
        have hPt := hPt.out W4 y hB HY.out hsm.out
        clear hk hk4 hW4
        simp only [found]
        go_upto_region 4 with fail
        rw [← HW4.out]
        go_wp2_with fail
        refine hPt.mono ?_
        clear hPt a0 a1 a2 a3 b0 b1 b2 b3
        rintro e W5 ⟨cp5, cl5, cc5, rfl, ht5, hk⟩
        have hB := hB.next hk
        obtain ⟨W6, hW6⟩ : ∃ W6, W6 = W5.alloc (.cells (four (put path x u).k (put path x u).n (put path x u).t cp5 cl5 cc5) T) := ⟨_, rfl⟩
        have hk6 : Keeps (fun _ => False) W5 W6 := by rw [hW6]; exact (Keeps.refl _ _).alloc _
        have hb6 : W6.heap[W5.heap.size]? = some (.cells (four (put path x u).k (put path x u).n (put path x u).t cp5 cl5 cc5) T (0, 0)) := by rw [hW6]; exact heap_alloc_new _ _
        have ht6 := ht5.top.next hk6
        have hB := hB.next hk6
        have hsm6 := hSm.out W6 cp5 cl5 cc5 _ ht6
        have hs6 := hk6.size
        obtain ⟨a0, a1, a2, a3, _⟩ := box4 hb6
        have HW6 := Lib.hid hW6
        have HT6 := Lib.hid ht6
        have HB6 := Lib.hid hb6
        clear hk hk6 hW6 ht5 ht6 hb6
        go_upto_region 7 with fail
        rw [← HW6.out]
        go_wp2_with fail
        refine hsm6.mono ?_
        clear hsm6 a0 a1 a2 a3
        rintro e W7 ⟨rfl, hk⟩
        have hB := hB.next hk
        by_cases hs7 : (put path x u).small
        · have hf : Hid (putF x path u = (put path x u, 0)) := by show putF x path u = _; rw [hput.out, if_pos hs7]
          obtain ⟨a0, a1, a2, a3, _⟩ := box4 (hk.heap HB6.out)
          have hO := hOw.out W7 cp5 cl5 cc5 _ hs7 (HT6.out.next hk)
          have g1 : decide (put path x u).small = true := decide_eq_true hs7
          have hsz := HT6.out.size
          have hs76 := hk.size
          have hs0 := hB.keeps.size
          clear hs7
          go_wp2_with fail
          refine hO.mono ?_
          clear hO a0 a1 a2 a3 g1
          rintro e W8 ⟨cp2, cl2, cc2, bs, rfl, hO, hN, hk2⟩
          have hB8 := hB.next hk2
          obtain ⟨⟨r0, r1, r2, r3⟩, ⟨f0, f1, f2, f3⟩⟩ := hR.out _ hB8
          have hs2 : w.heap.size + 3 ≤ W7.heap.size := by have := heap_lt hB.b2; omega
          have hfin2 := TreeRes.stored (n := 0) (R := w.heap.size + 2) (by omega) (by omega) (by omega) hO hN hsz hB8.keeps
          have HF := Lib.hid hfin2
          clear hfin2 hO hN hk2
          go_wp2_with fail
          refine bodyPost_ret (v := .tuple #[tv (put path x u).k (put path x u).n (put path x u).t cp2 cl2 cc2, .int .i64 0]) (by simp [results, Try.results52, go_sem, r0, r1, r2, r3]) rfl ?_
          rw [hf.out]
          exact HF.out
        · have hf : Hid (putF x path u = (zeroNd, 2)) := by show putF x path u = _; rw [hput.out, if_neg hs7]
          have g1 : decide (put path x u).small = false := decide_eq_false hs7
          clear hs7
          obtain ⟨⟨r0, r1, r2, r3⟩, ⟨f0, f1, f2, f3⟩⟩ := hR.out _ hB
          go_wp2_with fail
          refine bodyPost_ret (v := .tuple #[tv e0 0 e0 none 0 0, .int .i64 2]) (by simp [results, Try.results52, go_sem, r0, r1, r2, r3]) rfl ?_
          rw [hf.out]
          exact TreeRes.none_ (by omega) hB.keeps
    · have hf : Hid (putF x path u = (zeroNd, 2)) := by show putF x path u = _; rw [hPf.out, if_neg (fun hh => hs' hh.2)]
      simp only [hs, decide_true] at hS1
      simp only [hs', decide_false] at hS2
      clear hs hs'
      go_enter Try.func52, Try.ntmps52
      go_upto_region 1 with fail
      rw [← HW.out]
      go_wp2_with fail
      refine (hS1.out _ hB).mono ?_
      clear a0 a1 a2 a3
      rintro e W ⟨rfl, hk⟩
      have hB := hB.next hk
      obtain ⟨_, ⟨b0, b1, b2, b3⟩⟩ := hC.out _ hB
      go_wp2_with fail
      refine (hS2.out _ hB).mono ?_
      clear b0 b1 b2 b3 hk
      rintro e W2 ⟨rfl, hk⟩
      have hB := hB.next hk
      obtain ⟨⟨r0, r1, r2, r3⟩, ⟨f0, f1, f2, f3⟩⟩ := hR.out _ hB
      go_wp2_with fail
      refine bodyPost_ret (v := .tuple #[tv e0 0 e0 none 0 0, .int .i64 2]) (by simp [results, Try.results52, go_sem, r0, r1, r2, r3]) rfl ?_
      rw [hf.out]
      exact TreeRes.none_ (by omega) hB.keeps
  · have hf : Hid (putF x path u = (zeroNd, 2)) := by show putF x path u = _; rw [hPf.out, if_neg (fun hh => hs hh.1)]
    simp only [hs, decide_false] at hS1
    clear hs
    go_enter Try.func52, Try.ntmps52
    go_upto_region 1 with fail
    rw [← HW.out]
    go_wp2_with fail
    refine (hS1.out _ hB).mono ?_
    clear a0 a1 a2 a3
    rintro e W ⟨rfl, hk⟩
    have hB := hB.next hk
    obtain ⟨⟨r0, r1, r2, r3⟩, ⟨f0, f1, f2, f3⟩⟩ := hR.out _ hB
    go_wp2_with fail
    refine bodyPost_ret (v := .tuple #[tv e0 0 e0 none 0 0, .int .i64 2]) (by simp [results, Try.results52, go_sem, r0, r1, r2, r3]) rfl ?_
    rw [hf.out]
    exact TreeRes.none_ (by omega) hB.keeps
end Go.Proofs.Ytnphhibfiklfjaa
