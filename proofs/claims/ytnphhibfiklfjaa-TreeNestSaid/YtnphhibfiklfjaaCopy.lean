/-
  tree.Copy, tree.At: their walks.
-/
import Derived.Test.YtnphhibfiklfjaaFind
import Derived.Test.YtnphhibfiklfjaaWlk2
set_option linter.unusedVariables false
set_option linter.unusedSimpArgs false
namespace Go.Proofs.Ytnphhibfiklfjaa
open Go.RowKit

theorem big_small (x : Nd) : big x.k x.t x.c = !decide x.small := by
  unfold big
  by_cases h : x.small
  · rw [wlk1_small x h]; simp [h]
  · rw [wlk1_great x h]; simp [h]
theorem sizeR_eq (x : Nd) : sizeR x.k x.t x.c = if x.small then ((x.nodes : Int), (x.depth : Int), (x.bytes : Int)) else (1025, 65, 16385) := by
  unfold sizeR
  rw [big_small]
  by_cases h : x.small
  · simp only [h, decide_true, Bool.not_true, Bool.false_eq_true, if_false, if_true]
    rw [wlk1_small x h]
  · simp [h]
abbrev zeroNd : Nd := ⟨e0, 0, e0, .nil⟩
theorem sub_nodes : ∀ (p : List Int) (x y : Nd), sub p x = some y → y.c.nodes ≤ x.c.nodes
  | [], x, y, h => by simp [sub] at h; rw [h]; exact Nat.le_refl _
  | i :: r, x, y, h => by
    simp only [sub] at h
    cases hk : x.c.kid i with
    | none => rw [hk] at h; simp at h
    | some z =>
      rw [hk] at h
      have h1 := sub_nodes r z y h
      have h2 : z.c.nodes ≤ x.c.nodes := by
        unfold Fo.kid at hk
        split at hk
        · simp at hk
        · by_cases hl : i.toNat < x.c.len
          · obtain ⟨k, n, t, c, r', hd⟩ := Fo.drop_lt i.toNat x.c hl
            rw [Fo.at?_drop hd] at hk
            injection hk with hk
            have := Fo.nodes_drop i.toNat x.c
            rw [hd] at this
            simp only [Fo.nodes] at this
            rw [← hk]
            show c.nodes ≤ _
            omega
          · rw [Fo.at?_none (by omega)] at hk; simp at hk
      omega
/-- What Copy answers. -/
def copyF (x : Nd) : Nd × Int := if x.small then (x, 0) else (zeroNd, 2)
def found : Option Nd → Nd × Int
  | some y => (y, 0)
  | none => (zeroNd, 23)
/-- What At answers. -/
def atF (x : Nd) (path : List Int) : Nd × Int := if x.small then found (sub path x) else (zeroNd, 2)
/-- A tree of its own and a number. -/
def TreeRes (w : World) (r : Nd × Int) (e : Ending) (w' : World) : Prop :=
  ∃ cp cl cc bs, e = .returned (.tuple #[tv r.1.k r.1.n r.1.t cp cl cc, .int .i64 r.2]) ∧ Own w' r.1.c cp cl cc bs ∧ News w' w.heap.size bs ∧ szok r.1.k r.1.t ∧ Keeps (fun _ => False) w w'
theorem TreeRes.zero {w w' : World} {n : Int} (hk : Keeps (fun _ => False) w w') : TreeRes w (zeroNd, n) (.returned (.tuple #[tv e0 0 e0 none 0 0, .int .i64 n])) w' :=
  ⟨none, 0, 0, [], rfl, Own.nil _, News.nil _ _, ⟨by show (0 : Nat) ≤ _; omega, by show (0 : Nat) ≤ _; omega⟩, hk⟩

set_option maxHeartbeats 800000 in
theorem Copy_any (x : Nd) (cp : Option Addr) (cl cc : Nat) (A : Nat → Prop) (w : World) (h : Tv w A x.k x.t x.c cp cl cc) :
   Calls Try.prog 24 #[tv x.k x.n x.t cp cl cc] w (TreeRes w (copyF x)) := by
  obtain ⟨w1, hw1⟩ : ∃ w1, w1 = w.alloc (.cells (four x.k x.n x.t cp cl cc) T) := ⟨_, rfl⟩
  obtain ⟨w2, hw2⟩ : ∃ w2, w2 = w1.alloc (.cells (four e0 0 e0 none 0 0) T) := ⟨_, rfl⟩
  have hK1 : Keeps (fun _ => False) w w1 := by rw [hw1]; exact (Keeps.refl _ w).alloc _
  have hK2 : Keeps (fun _ => False) w1 w2 := by rw [hw2]; exact (Keeps.refl _ w1).alloc _
  have hs1 : w1.heap.size = w.heap.size + 1 := by rw [hw1]; simp
  have hs2 : w2.heap.size = w.heap.size + 1 + 1 := by rw [hw2]; simp [hs1]
  have hn1 : NodeAt w1 A w.heap.size 0 x.k x.n x.t x.c cp cl cc := by rw [hw1]; exact h.boxed _
  have hn := (hn1.keeps hK2 (fun _ _ h => h) (by omega) (fun h => h)).top
  have hres : w2.heap[w.heap.size + 1]? = some (.cells (four e0 0 e0 none 0 0) T (0, 0)) := by rw [hw2, ← hs1]; exact heap_alloc_new _ _
  have hg := great_any x.k x.n x.t x.c w.heap.size 0 cp cl cc w2 (by omega) hn
  rw [big_small] at hg
  have hK := hK1.trans hK2
  have HW := Lib.hid hw2
  have HW1 := Lib.hid hw1
  clear hw1 hw2 hn1
  by_cases hsm : x.small
  · have htw := fun W (hk : Keeps (fun _ => False) w2 W) => twin_any (x.c.nodes + 1) (by have := hsm.1; simp only [Nd.nodes] at this; omega) x.k x.n x.t x.c _ w.heap.size 0 cp cl cc W (by omega) (by have := hk.size; omega) (hn.keeps hk (fun _ _ h => h) (by omega) (fun h => h))
    simp only [hsm, decide_true, Bool.not_true] at hg
    have hcf : copyF x = (x, 0) := by simp [copyF, hsm]
    rw [hcf]
    clear hcf hsm hn
    go_enter Try.func24, Try.ntmps24
    go_wp2_with fail
    rw [← HW1.out, ← HW.out]
    refine hg.mono ?_
    clear hg
    rintro e W ⟨rfl, hk⟩
    go_wp2_with fail
    refine (htw W hk).mono ?_
    clear htw
    rintro e W2 ⟨cp2, cl2, cc2, bs, rfl, ho, hnw, hk2⟩
    have hk' := hk.trans hk2
    have hres2 : W2.heap[w.heap.size + 1]? = some (.cells (four e0 0 e0 none 0 0) T (0, 0)) := (hk'.block _ (heap_lt hres) (fun h => h)).trans hres
    obtain ⟨r0, r1, r2, r3, f0, f1, f2, f3⟩ := box4 hres2
    have hsW := hk.size
    go_wp2_with fail
    refine bodyPost_ret (v := .tuple #[tv x.k x.n x.t cp2 cl2 cc2, .int .i64 0]) (by simp [results, Try.results24, go_sem, r0, r1, r2, r3]) rfl ?_
    have h4 := Keeps.four W2 (w.heap.size + 1) (.string x.k) (.int .i64 x.n) (.string x.t) (.slice cp2 cl2 cc2)
    exact ⟨cp2, cl2, cc2, bs, rfl, ho.keeps h4 (fun b hb => ⟨hnw.hi b hb, fun e => by have := hnw.lo b hb; omega⟩), (hnw.keeps h4).mono (by omega), h.size, (hK.trans hk').trans' h4 (fun b hb hl => by omega)⟩
  · simp only [hsm, decide_false, Bool.not_false] at hg
    have hcf : copyF x = (zeroNd, 2) := by simp [copyF, hsm]
    rw [hcf]
    clear hcf hsm hn
    go_enter Try.func24, Try.ntmps24
    go_wp2_with fail
    rw [← HW1.out, ← HW.out]
    refine hg.mono ?_
    clear hg
    rintro e W2 ⟨rfl, hk'⟩
    have hres2 : W2.heap[w.heap.size + 1]? = some (.cells (four e0 0 e0 none 0 0) T (0, 0)) := (hk'.block _ (heap_lt hres) (fun h => h)).trans hres
    obtain ⟨r0, r1, r2, r3, f0, f1, f2, f3⟩ := box4 hres2
    go_wp2_with fail
    refine bodyPost_ret (v := .tuple #[tv e0 0 e0 none 0 0, .int .i64 2]) (by simp [results, Try.results24, go_sem, r0, r1, r2, r3]) rfl ?_
    have h4 := Keeps.four W2 (w.heap.size + 1) (.string e0) (.int .i64 0) (.string e0) (.slice none 0 0)
    exact TreeRes.zero ((hK.trans hk').trans' h4 (fun b hb hl => by omega))
end Go.Proofs.Ytnphhibfiklfjaa
