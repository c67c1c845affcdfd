/-
  tree.At: its walk.
-/
import Derived.Test.YtnphhibfiklfjaaCopy
set_option linter.unusedVariables false
set_option linter.unusedSimpArgs false
namespace Go.Proofs.Ytnphhibfiklfjaa
open Go.RowKit

set_option maxHeartbeats 800000 in
theorem At_any (x : Nd) (path : List Int) (cp : Option Addr) (cl cc : Nat) (A A' : Nat → Prop) (pp : Option Addr) (pl pc : Nat) (w : World) (h : Tv w A x.k x.t x.c cp cl cc) (hp : Ints w A' path pp pl) :
   Calls Try.prog 11 #[tv x.k x.n x.t cp cl cc, .slice pp pl pc] w (TreeRes w (atF x path)) := by
  obtain ⟨w1, hw1⟩ : ∃ w1, w1 = w.alloc (.cells (four x.k x.n x.t cp cl cc) T) := ⟨_, rfl⟩
  obtain ⟨w2, hw2⟩ : ∃ w2, w2 = w1.alloc (.cells (four e0 0 e0 none 0 0) T) := ⟨_, rfl⟩
  have hK1 : Keeps (fun _ => False) w w1 := by rw [hw1]; exact (Keeps.refl _ w).alloc _
  have hK2 : Keeps (fun _ => False) w1 w2 := by rw [hw2]; exact (Keeps.refl _ w1).alloc _
  have hs1 : w1.heap.size = w.heap.size + 1 := by rw [hw1]; simp
  have hs2 : w2.heap.size = w.heap.size + 1 + 1 := by rw [hw2]; simp [hs1]
  have hn1 : NodeAt w1 A w.heap.size 0 x.k x.n x.t x.c cp cl cc := by rw [hw1]; exact h.boxed _
  have hn := (hn1.keeps hK2 (fun _ _ h => h) (by omega) (fun h => h)).top
  have hres : w2.heap[w.heap.size + 1]? = some (.cells (four e0 0 e0 none 0 0) T (0, 0)) := by rw [hw2, ← hs1]; exact heap_alloc_new _ _
  have hg := great_any x.k x.n x.t x.c w.heap.size 0 cp cl cc w2 (by omega) hn
  rw [big_small] at hg
  have hK := hK1.trans hK2
  have hp2 := hp.keeps hK (fun _ _ h => h)
  have HW := Lib.hid hw2
  have HW1 := Lib.hid hw1
  clear hw1 hw2 hn1
  by_cases hsm : x.small
  · have hfi := fun W (hk : Keeps (fun _ => False) w2 W) => find_any path x _ A' w.heap.size 0 cp cl cc pp pl pc W (hn.keeps hk (fun _ _ h => h) (by omega) (fun h => h)) (hp2.keeps hk (fun _ _ h => h))
    simp only [hsm, decide_true, Bool.not_true] at hg
    have hcn : x.c.nodes + 1 ≤ 100000 := by have := hsm.1; simp only [Nd.nodes] at this; omega
    have hcf : atF x path = found (sub path x) := by simp [atF, hsm]
    have HC := Lib.hid hcf
    clear hcf hsm
    have hn2 : ∀ W, Keeps (fun _ => False) w2 W → w.heap.size < W.heap.size := fun W hk => by have := hk.size; omega
    go_enter Try.func11, Try.ntmps11
    go_wp2_with fail
    rw [← HW1.out, ← HW.out]
    refine hg.mono ?_
    clear hg
    rintro e W ⟨rfl, hk⟩
    go_wp2_with fail
    refine (hfi W hk).mono ?_
    clear hfi
    rintro e W' ⟨rfl, ⟨hsub, rfl⟩ | ⟨b', o', y, cp1, cl1, cc1, hsub, rfl, _, hny, _⟩⟩
    · have HS := Lib.hid hsub
      clear hsub
      have hres2 : W.heap[w.heap.size + 1]? = some (.cells (four e0 0 e0 none 0 0) T (0, 0)) := (hk.block _ (heap_lt hres) (fun h => h)).trans hres
      obtain ⟨r0, r1, r2, r3, f0, f1, f2, f3⟩ := box4 hres2
      go_wp2_with fail
      refine bodyPost_ret (v := .tuple #[tv e0 0 e0 none 0 0, .int .i64 23]) (by simp [results, Try.results11, go_sem, r0, r1, r2, r3]) rfl ?_
      have h4 := Keeps.four W (w.heap.size + 1) (.string e0) (.int .i64 0) (.string e0) (.slice none 0 0)
      rw [HC.out, HS.out]
      exact TreeRes.zero ((hK.trans hk).trans' h4 (fun b hb hl => by omega))
    · have hyn := sub_nodes path x y hsub
      have HS := Lib.hid hsub
      clear hsub
      have hbW : b' < W.heap.size := World.block_lt_of_cell? W _ hny.c0
      have htw := twin_any (y.c.nodes + 1) (by omega) y.k y.n y.t y.c _ b' o' cp1 cl1 cc1 W (by omega) hbW hny
      go_wp2_with fail
      refine htw.mono ?_
      clear htw
      rintro e W2 ⟨cp2, cl2, cc2, bs, rfl, ho, hnw, hk2⟩
      have hk' := hk.trans hk2
      have hres2 : W2.heap[w.heap.size + 1]? = some (.cells (four e0 0 e0 none 0 0) T (0, 0)) := (hk'.block _ (heap_lt hres) (fun h => h)).trans hres
      obtain ⟨r0, r1, r2, r3, f0, f1, f2, f3⟩ := box4 hres2
      have hsW := hk.size
      go_wp2_with fail
      refine bodyPost_ret (v := .tuple #[tv y.k y.n y.t cp2 cl2 cc2, .int .i64 0]) (by simp [results, Try.results11, go_sem, r0, r1, r2, r3]) rfl ?_
      have h4 := Keeps.four W2 (w.heap.size + 1) (.string y.k) (.int .i64 y.n) (.string y.t) (.slice cp2 cl2 cc2)
      rw [HC.out, HS.out]
      exact ⟨cp2, cl2, cc2, bs, rfl, ho.keeps h4 (fun b hb => ⟨hnw.hi b hb, fun e => by have := hnw.lo b hb; omega⟩), (hnw.keeps h4).mono (by omega), hny.size, (hK.trans hk').trans' h4 (fun b hb hl => by omega)⟩
  · simp only [hsm, decide_false, Bool.not_false] at hg
    have hcf : atF x path = (zeroNd, 2) := by simp [atF, hsm]
    rw [hcf]
    clear hcf hsm hn
    go_enter Try.func11, Try.ntmps11
    go_wp2_with fail
    rw [← HW1.out, ← HW.out]
    refine hg.mono ?_
    clear hg
    rintro e W2 ⟨rfl, hk'⟩
    have hres2 : W2.heap[w.heap.size + 1]? = some (.cells (four e0 0 e0 none 0 0) T (0, 0)) := (hk'.block _ (heap_lt hres) (fun h => h)).trans hres
    obtain ⟨r0, r1, r2, r3, f0, f1, f2, f3⟩ := box4 hres2
    go_wp2_with fail
    refine bodyPost_ret (v := .tuple #[tv e0 0 e0 none 0 0, .int .i64 2]) (by simp [results, Try.results11, go_sem, r0, r1, r2, r3]) rfl ?_
    have h4 := Keeps.four W2 (w.heap.size + 1) (.string e0) (.int .i64 0) (.string e0) (.slice none 0 0)
    exact TreeRes.zero ((hK.trans hk').trans' h4 (fun b hb hl => by omega))
end Go.Proofs.Ytnphhibfiklfjaa
