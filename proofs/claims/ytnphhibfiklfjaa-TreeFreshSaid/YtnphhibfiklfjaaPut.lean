/-
  tree.Put: its walk.
-/
import Derived.Test.YtnphhibfiklfjaaPkC

import Derived.Test.YtnphhibfiklfjaaPkA

set_option linter.unusedVariables false

set_option linter.unusedSimpArgs false

namespace Go.Proofs.Ytnphhibfiklfjaa

open Go.RowKit

theorem RowRep.shape {w : World} : ∀ {f : Fo} {xs : List Value} {bs : List Nat}, RowRep w f xs bs → ∀ b ∈ bs, ∃ cur, w.heap[b]? = some (.cells cur 24 (0, 0))
  | .nil, _, _, h, b, hb => by rw [h.2] at hb; simp at hb
  | .cons _ _ _ _ _, _, _, ⟨cp, cl, cc, ys, bs1, xs', bs2, hx, hbs, ht, ho, hc, hr⟩, b, hb => by
    rw [hbs] at hb
    simp only [List.mem_append] at hb
    rcases hb with (hb | hb) | hb
    · simp only [sb] at hb
      rcases ho.2 with ⟨he, _⟩ | ⟨g, cap, cur, he, _, hh, _⟩
      · rw [he] at hb; simp [Value.ownBlock] at hb
      · rw [he] at hb
        simp only [Value.ownBlock, Option.toList_some, List.mem_singleton] at hb
        exact ⟨cur, by rw [hb]; exact hh⟩
    · exact hc.shape b hb
    · exact hr.shape b hb
theorem Own.shape {w : World} {c : Fo} {cp cl cc bs} (h : Own w c cp cl cc bs) : ∀ b ∈ bs, ∃ cur, w.heap[b]? = some (.cells cur 24 (0, 0)) := fun b hb => by
  obtain ⟨ys, bs1, ho, hr, rfl⟩ := h
  rcases List.mem_append.1 hb with hb | hb
  · simp only [sb] at hb
    rcases ho.2 with ⟨he, _⟩ | ⟨g, cap, cur, he, _, hh, _⟩
    · rw [he] at hb; simp [Value.ownBlock] at hb
    · rw [he] at hb
      simp only [Value.ownBlock, Option.toList_some, List.mem_singleton] at hb
      exact ⟨cur, by rw [hb]; exact hh⟩
  · exact hr.shape b hb
theorem Nav.keeps {w w1 : World} (hk : Keeps (fun _ => False) w w1) : ∀ {path : List Int} {b o b' o' : Nat}, Nav w path b o b' o' → Nav w1 path b o b' o'
  | [], _, _, _, _, h => h
  | _ :: _, b, o, _, _, ⟨kb, ko, cl, cc, h1, h2, h3, h4⟩ => ⟨kb, ko, cl, cc, (hk.cell (p := ⟨b, o + 3, none⟩) (World.block_lt_of_cell? w _ h1) (fun h => h)).trans h1, h2, h3, Nav.keeps hk h4⟩
theorem Keeps.set4 (w : World) (B o : Nat) (v0 v1 v2 v3 : Value) : Keeps (fun b => b = B) w (set4 w B o v0 v1 v2 v3) := by
  have h : ∀ (W : World) (o : Nat) (v : Value), Keeps (fun b => b = B) w W → Keeps (fun b => b = B) w (W.setCell ⟨B, o, none⟩ v) := fun W o v h => h.setCell (p := ⟨B, o, none⟩) (fun _ => rfl) v
  exact h _ _ _ (h _ _ _ (h _ _ _ (h _ _ _ (Keeps.refl _ w))))
/-- What Put answers. -/
def putF (x : Nd) (path : List Int) (u : Nd) : Nd × Int :=
  if x.small ∧ u.small then (if (sub path x).isSome then (if (put path x u).small then (put path x u, 0) else (zeroNd, 2)) else (zeroNd, 23)) else (zeroNd, 2)

set_option maxRecDepth 100000 in
set_option maxHeartbeats 1600000 in
theorem Put_any (x u : Nd) (path : List Int) (cp up : Option Addr) (cl cc ul uc : Nat) (A A' A'' : Nat → Prop) (pp : Option Addr) (pl pc : Nat) (w : World) (h : Tv w A x.k x.t x.c cp cl cc) (hp : Ints w A' path pp pl) (hu : Tv w A'' u.k u.t u.c up ul uc) :
   Calls Try.prog 14 #[tv x.k x.n x.t cp cl cc, .slice pp pl pc, tv u.k u.n u.t up ul uc] w (TreeRes w (putF x path u)) := by
  obtain ⟨w1, hw1⟩ : ∃ w1, w1 = w.alloc (.cells (four x.k x.n x.t cp cl cc) T) := ⟨_, rfl⟩
  obtain ⟨w2, hw2⟩ : ∃ w2, w2 = w1.alloc (.cells (four u.k u.n u.t up ul uc) T) := ⟨_, rfl⟩
  obtain ⟨w3, hw3⟩ : ∃ w3, w3 = w2.alloc (.cells (four e0 0 e0 none 0 0) T) := ⟨_, rfl⟩
  have hK1 : Keeps (fun _ => False) w w1 := by rw [hw1]; exact (Keeps.refl _ w).alloc _
  have hK2 : Keeps (fun _ => False) w1 w2 := by rw [hw2]; exact (Keeps.refl _ w1).alloc _
  have hK3 : Keeps (fun _ => False) w2 w3 := by rw [hw3]; exact (Keeps.refl _ w2).alloc _
  have hs1 : w1.heap.size = w.heap.size + 1 := by rw [hw1]; simp
  have hs2 : w2.heap.size = w.heap.size + 1 + 1 := by rw [hw2]; simp [hs1]
  have hs3 : w3.heap.size = w.heap.size + 1 + 1 + 1 := by rw [hw3]; simp [hs2]
  have hbox : w3.heap[w.heap.size]? = some (.cells (four x.k x.n x.t cp cl cc) T (0, 0)) := by
    rw [hK3.block _ (by omega) (fun h => h), hK2.block _ (by omega) (fun h => h), hw1]; exact heap_alloc_new _ _
  have hn1 : NodeAt w1 A w.heap.size 0 x.k x.n x.t x.c cp cl cc := by rw [hw1]; exact h.boxed _
  have hn := ((hn1.keeps hK2 (fun _ _ h => h) (by omega) (fun h => h)).keeps hK3 (fun _ _ h => h) (by omega) (fun h => h)).top
  have hu1 : NodeAt w2 (fun b => b < w.heap.size) (w.heap.size + 1) 0 u.k u.n u.t u.c up ul uc := by rw [hw2, ← hs1]; exact (hu.top.keeps hK1 (fun _ _ h => h)).boxed _
  have hnu := hu1.keeps hK3 (fun _ _ h => h) (by omega) (fun h => h)
  have hres : w3.heap[w.heap.size + 1 + 1]? = some (.cells (four e0 0 e0 none 0 0) T (0, 0)) := by rw [hw3, ← hs2]; exact heap_alloc_new _ _
  have hg := great_any x.k x.n x.t x.c w.heap.size 0 cp cl cc w3 (by omega) hn
  rw [big_small] at hg
  have hgu := fun W (hk : Keeps (fun _ => False) w3 W) => great_any u.k u.n u.t u.c (w.heap.size + 1) 0 up ul uc W (by have := hk.size; omega) (hnu.keeps hk (fun _ _ h => h) (by omega) (fun h => h)).top
  simp only [big_small] at hgu
  have hK := (hK1.trans hK2).trans hK3
  have hp3 := hp.keeps hK (fun _ _ h => h)
  have HW := Lib.hid hw3
  have HW1 := Lib.hid hw1
  have HW2 := Lib.hid hw2
  clear hw1 hw2 hw3 hn1 hu1
  by_cases hsm : x.small
  · simp only [hsm, decide_true, Bool.not_true] at hg
    by_cases hsu : u.small
    · simp only [hsu, decide_true, Bool.not_true] at hgu
      have hcf : putF x path u = (if (sub path x).isSome then (if (put path x u).small then (put path x u, 0) else (zeroNd, 2)) else (zeroNd, 23)) := by simp [putF, hsm, hsu]
      have HC := Lib.hid hcf
      have hcn : x.c.nodes + 1 ≤ 100000 := by have := hsm.1; simp only [Nd.nodes] at this; omega
      have hcu : u.c.nodes + 1 ≤ 100000 := by have := hsu.1; simp only [Nd.nodes] at this; omega
      clear hcf hsm hsu
      go_enter Try.func14, Try.ntmps14
      go_wp2_with fail
      rw [← HW1.out, ← HW2.out, ← HW.out]
      refine hg.mono ?_
      clear hg
      rintro e W ⟨rfl, hk⟩
      go_wp2_with fail
      refine (hgu W hk).mono ?_
      clear hgu
      rintro e W2 ⟨rfl, hk2⟩
      have hk2 := hk.trans hk2
      have hbox2 := (hk2.block _ (heap_lt hbox) (fun h => h)).trans hbox
      have hsz2 := hk2.size
      have htw := twin_any (x.c.nodes + 1) hcn x.k x.n x.t x.c _ w.heap.size 0 cp cl cc W2 (by omega) (by omega) (hn.keeps hk2 (fun _ _ h => h) (by omega) (fun h => h))
      go_wp2_with fail
      refine htw.mono ?_
      clear htw
      rintro e W3 ⟨cp1, cl1, cc1, bs1, rfl, ho1, hnw1, hk3⟩
      have hsz3 := hk3.size
      have hbox3 := (hk3.block _ (heap_lt hbox2) (fun h => h)).trans hbox2
      obtain ⟨r0, r1, r2, r3, f0, f1, f2, f3⟩ := box4 hbox3
      obtain ⟨W4, hW4⟩ : ∃ W4, W4 = (((W3.setCell ⟨w.heap.size, 0, none⟩ (.string x.k)).setCell ⟨w.heap.size, 1, none⟩ (.int .i64 x.n)).setCell ⟨w.heap.size, 2, none⟩ (.string x.t)).setCell ⟨w.heap.size, 3, none⟩ (.slice cp1 cl1 cc1) := ⟨_, rfl⟩
      have hk4 : Keeps (fun b => b = w.heap.size) W3 W4 := by rw [hW4]; exact Keeps.four _ _ _ _ _ _
      have hsz4 : W4.heap.size = W3.heap.size := by rw [hW4]; exact set4_size (o := 0)
      have hbox4 : W4.heap[w.heap.size]? = some (.cells (four x.k x.n x.t cp1 cl1 cc1) T (0, 0)) := by
        rw [hW4, heap_set (heap_set (heap_set (heap_set hbox3 _ _) _ _) _ _) _ _]
        rfl
      have hdis1 : ∀ b ∈ bs1, b < W3.heap.size ∧ ¬ b = w.heap.size := fun b hb => ⟨hnw1.hi b hb, fun e => by have := hnw1.lo b hb; omega⟩
      have ho4 : Own W4 x.c cp1 cl1 cc1 bs1 := ho1.keeps hk4 hdis1
      obtain ⟨q0, q1, q2, q3, g0, g1, g2, g3⟩ := box4 hbox4
      have htv4 := ho4.tv h.size
      have hn4 : NodeAt W4 (fun b => b ∈ bs1) w.heap.size 0 x.k x.n x.t x.c cp1 cl1 cc1 := ⟨h.size, htv4.lc, htv4.cm, q0, q1, q2, q3, htv4.kids⟩
      have hkA := hK.trans (hk2.trans hk3)
      have hp4 : Ints W4 (fun b => b < w.heap.size) path pp pl := (hp.top.keeps hkA (fun _ _ h => h)).keeps hk4 (fun b hb e => by omega)
      have hfi := find_any path x _ _ w.heap.size 0 cp1 cl1 cc1 pp pl pc W4 hn4 hp4
      have HW4 := Lib.hid hW4
      clear hW4
      go_wp2_with fail
      rw [← HW4.out]
      clear r0 r1 r2 r3 f0 f1 f2 f3
      refine hfi.mono ?_
      clear hfi
      rintro e W' ⟨rfl, ⟨hsub, rfl⟩ | ⟨b', o', y, cp5, cl5, cc5, hsub, rfl, hnav, hny, hbb⟩⟩
      · have HS := Lib.hid hsub
        clear hsub
        have hres2 : W4.heap[w.heap.size + 1 + 1]? = some (.cells (four e0 0 e0 none 0 0) T (0, 0)) := by
          rw [hk4.block _ (by omega) (by omega), hk3.block _ (by omega) (fun h => h), hk2.block _ (heap_lt hres) (fun h => h)]; exact hres
        obtain ⟨r0, r1, r2, r3, f0, f1, f2, f3⟩ := box4 hres2
        clear q0 q1 q2 q3 g0 g1 g2 g3
        go_wp2_with fail
        refine bodyPost_ret (v := .tuple #[tv e0 0 e0 none 0 0, .int .i64 23]) (by simp [results, Try.results14, go_sem, r0, r1, r2, r3]) rfl ?_
        have h4 := Keeps.four W4 (w.heap.size + 1 + 1) (.string e0) (.int .i64 0) (.string e0) (.slice none 0 0)
        rw [HC.out, HS.out]
        exact TreeRes.zero ((hkA.trans' hk4 (fun b hb hl => by omega)).trans' h4 (fun b hb hl => by omega))
      · have HS := Lib.hid hsub
        have HN := Lib.hid hnav
        clear hsub hnav
        have htw2 := twin_any (u.c.nodes + 1) hcu u.k u.n u.t u.c _ (w.heap.size + 1) 0 up ul uc W4 (by omega) (by omega) ((hnu.keeps (hk2.trans hk3) (fun _ _ h => h) (by omega) (fun h => h)).keeps hk4 (fun b hb e => by omega) (by omega) (by omega))
        clear q0 q1 q2 q3 g0 g1 g2 g3
        go_wp2_with fail
        refine htw2.mono ?_
        clear htw2
        rintro e W5 ⟨cp6, cl6, cc6, us, rfl, ho6, hnw6, hk6⟩
        have hbs' : ∃ cur, W4.heap[b']? = some (.cells cur T (0, 0)) := by
          rcases hbb with e | hb
          · exact ⟨_, by rw [e]; exact hbox4⟩
          · exact ho4.shape b' hb
        obtain ⟨cur, hcur⟩ := hbs'
        have hcur5 := (hk6.block _ (heap_lt hcur) (fun h => h)).trans hcur
        have hny5 := hny.keeps hk6 (fun _ _ h => h) (heap_lt hcur) (fun h => h)
        have s0 := hny5.c0
        have s1 := hny5.c1
        have s2 := hny5.c2
        have s3 := hny5.c3
        have z0 : W5.frozen? ⟨b', o', none⟩ = false := by simp [World.frozen?, hcur5]
        have z1 : W5.frozen? ⟨b', o' + 1, none⟩ = false := by simp [World.frozen?, hcur5]
        have z2 : W5.frozen? ⟨b', o' + 2, none⟩ = false := by simp [World.frozen?, hcur5]
        have z3 : W5.frozen? ⟨b', o' + 3, none⟩ = false := by simp [World.frozen?, hcur5]
        have hbox5 := (hk6.block _ (heap_lt hbox4) (fun h => h)).trans hbox4
        obtain ⟨t0, t1, t2, t3, _, _, _, _⟩ := box4 hbox5
        have hmem := put_mem u cp6 cl6 cc6 us hu.size path x y W5 w.heap.size 0 cp1 cl1 cc1 bs1 b' o' t0 t1 t2 t3 (ho4.keeps hk6 (fun b hb => ⟨by have := (hdis1 b hb).1; omega, fun h => h⟩)) h.size (fun hb => (hdis1 _ hb).2 rfl) hnw1.nodup ho6 hnw6.nodup
          (fun z hz => ⟨fun hb => by have := hnw6.lo z hz; have := hnw1.hi z hb; omega, fun e => by have := hnw6.lo z hz; omega⟩) (HN.out.keeps hk6) HS.out
        obtain ⟨W6, hW6⟩ : ∃ W6, W6 = (((W5.setCell ⟨b', o', none⟩ (.string u.k)).setCell ⟨b', o' + 1, none⟩ (.int .i64 u.n)).setCell ⟨b', o' + 2, none⟩ (.string u.t)).setCell ⟨b', o' + 3, none⟩ (.slice cp6 cl6 cc6) := ⟨_, rfl⟩
        have hk7 : Keeps (fun b => b = b') W5 W6 := by rw [hW6]; exact Keeps.set4 _ _ _ _ _ _ _
        simp only [set4, ← hW6] at hmem
        obtain ⟨cp7, cl7, cc7, bs', hb7, d0, d1, d2, d3, _, ho7, ht7, hnd7, hsub7⟩ := hmem
        have hsz6 : W6.heap.size = W5.heap.size := by rw [hW6]; exact set4_size
        have hsz5 := hk6.size
        have hlo7 : ∀ z ∈ bs', w.heap.size + 1 + 1 + 1 ≤ z ∧ z < W6.heap.size := fun z hz => by
          rcases hsub7 z hz with h1 | h1
          · have a := hnw1.lo z h1
            have c := hnw1.hi z h1
            omega
          · have a := hnw6.lo z h1
            have c := hnw6.hi z h1
            omega
        have hb'2 : b' ≠ w.heap.size + 1 + 1 ∧ w.heap.size ≤ b' := by
          rcases hb7 with e | h1
          · omega
          · have := hnw1.lo b' h1; omega
        have htv7 := ho7.tv ht7
        have hn7 : NodeAt W6 _ w.heap.size 0 (put path x u).k (put path x u).n (put path x u).t (put path x u).c cp7 cl7 cc7 := ⟨ht7, htv7.lc, htv7.cm, d0, d1, d2, d3, htv7.kids⟩
        have hgp := great_any (put path x u).k (put path x u).n (put path x u).t (put path x u).c w.heap.size 0 cp7 cl7 cc7 W6 (by omega) hn7.top
        rw [big_small] at hgp
        have hkB := (hkA.trans' hk4 (fun b hb hl => by omega)).trans hk6
        have hkC := hkB.trans' hk7 (fun b hb hl => by omega)
        have hres6 : W6.heap[w.heap.size + 1 + 1]? = some (.cells (four e0 0 e0 none 0 0) T (0, 0)) := by
          rw [hk7.block _ (by omega) (fun e => hb'2.1 e.symm), hk6.block _ (by omega) (fun h => h), hk4.block _ (by omega) (by omega), hk3.block _ (by omega) (fun h => h), hk2.block _ (heap_lt hres) (fun h => h)]; exact hres
        have HW6 := Lib.hid hW6
        obtain ⟨v, hv⟩ : ∃ v, put path x u = v := ⟨_, rfl⟩
        have HV := Lib.hid hv
        rw [hv] at d0 d1 d2 ho7 ht7 hgp
        clear hW6 hn7 htv7 hv t0 t1 t2 t3
        go_wp2_with fail
        rw [← HW6.out]
        clear s0 s1 s2 s3 z0 z1 z2 z3
        by_cases hsv : v.small
        · simp only [hsv, decide_true, Bool.not_true] at hgp
          refine hgp.mono ?_
          clear hgp
          rintro e W7 ⟨rfl, hk8⟩
          have hres7 := (hk8.block _ (heap_lt hres6) (fun h => h)).trans hres6
          obtain ⟨r0, r1, r2, r3, f0, f1, f2, f3⟩ := box4 hres7
          have d0 := (hk8.cell (p := ⟨w.heap.size, 0, none⟩) (World.block_lt_of_cell? W6 _ d0) (fun h => h)).trans d0
          have d1 := (hk8.cell (p := ⟨w.heap.size, 0 + 1, none⟩) (World.block_lt_of_cell? W6 _ d1) (fun h => h)).trans d1
          have d2 := (hk8.cell (p := ⟨w.heap.size, 0 + 2, none⟩) (World.block_lt_of_cell? W6 _ d2) (fun h => h)).trans d2
          have d3 := (hk8.cell (p := ⟨w.heap.size, 0 + 3, none⟩) (World.block_lt_of_cell? W6 _ d3) (fun h => h)).trans d3
          simp only [Nat.zero_add] at d1 d2 d3
          have HR : Hid (putF x path u = (v, 0)) := by rw [HC.out, HS.out, HV.out]; simp [hsv, Hid]
          clear hsv
          go_wp2_with fail
          refine bodyPost_ret (v := .tuple #[tv v.k v.n v.t cp7 cl7 cc7, .int .i64 0]) (by simp [results, Try.results14, go_sem, r0, r1, r2, r3]) rfl ?_
          have h4 := Keeps.four W7 (w.heap.size + 1 + 1) (.string v.k) (.int .i64 v.n) (.string v.t) (.slice cp7 cl7 cc7)
          rw [HR.out]
          have ho8 := ho7.keeps hk8 (fun z hz => ⟨(hlo7 z hz).2, fun h => h⟩)
          have hsz8 := hk8.size
          exact ⟨cp7, cl7, cc7, bs', rfl, ho8.keeps h4 (fun z hz => ⟨by have := (hlo7 z hz).2; omega, fun e => by have := (hlo7 z hz).1; omega⟩),
            ⟨fun z hz => by have := (hlo7 z hz).1; omega, fun z hz => by have h1 := (hlo7 z hz).2; have h2 := h4.size; omega, hnd7⟩, ht7, (hkC.trans hk8).trans' h4 (fun b hb hl => by omega)⟩
        · simp only [hsv, decide_false, Bool.not_false] at hgp
          refine hgp.mono ?_
          clear hgp
          rintro e W7 ⟨rfl, hk8⟩
          have hres7 := (hk8.block _ (heap_lt hres6) (fun h => h)).trans hres6
          obtain ⟨r0, r1, r2, r3, f0, f1, f2, f3⟩ := box4 hres7
          have HR : Hid (putF x path u = (zeroNd, 2)) := by rw [HC.out, HS.out, HV.out]; simp [hsv, Hid]
          clear hsv d0 d1 d2 d3
          go_wp2_with fail
          refine bodyPost_ret (v := .tuple #[tv e0 0 e0 none 0 0, .int .i64 2]) (by simp [results, Try.results14, go_sem, r0, r1, r2, r3]) rfl ?_
          have h4 := Keeps.four W7 (w.heap.size + 1 + 1) (.string e0) (.int .i64 0) (.string e0) (.slice none 0 0)
          rw [HR.out]
          exact TreeRes.zero ((hkC.trans hk8).trans' h4 (fun b hb hl => by omega))
    · simp only [hsu, decide_false, Bool.not_false] at hgu
      have hcf : putF x path u = (zeroNd, 2) := by simp [putF, hsu]
      rw [hcf]
      clear hcf hsm hsu hn
      go_enter Try.func14, Try.ntmps14
      go_wp2_with fail
      rw [← HW1.out, ← HW2.out, ← HW.out]
      refine hg.mono ?_
      clear hg
      rintro e W ⟨rfl, hk⟩
      go_wp2_with fail
      refine (hgu W hk).mono ?_
      clear hgu
      rintro e W2 ⟨rfl, hk2⟩
      have hk' := hk.trans hk2
      have hres2 := (hk'.block _ (heap_lt hres) (fun h => h)).trans hres
      obtain ⟨r0, r1, r2, r3, f0, f1, f2, f3⟩ := box4 hres2
      go_wp2_with fail
      refine bodyPost_ret (v := .tuple #[tv e0 0 e0 none 0 0, .int .i64 2]) (by simp [results, Try.results14, go_sem, r0, r1, r2, r3]) rfl ?_
      have h4 := Keeps.four W2 (w.heap.size + 1 + 1) (.string e0) (.int .i64 0) (.string e0) (.slice none 0 0)
      exact TreeRes.zero ((hK.trans hk').trans' h4 (fun b hb hl => by omega))
  · simp only [hsm, decide_false, Bool.not_false] at hg
    have hcf : putF x path u = (zeroNd, 2) := by simp [putF, hsm]
    rw [hcf]
    clear hcf hsm hn
    go_enter Try.func14, Try.ntmps14
    go_wp2_with fail
    rw [← HW1.out, ← HW2.out, ← HW.out]
    refine hg.mono ?_
    clear hg
    rintro e W2 ⟨rfl, hk'⟩
    have hres2 := (hk'.block _ (heap_lt hres) (fun h => h)).trans hres
    obtain ⟨r0, r1, r2, r3, f0, f1, f2, f3⟩ := box4 hres2
    go_wp2_with fail
    refine bodyPost_ret (v := .tuple #[tv e0 0 e0 none 0 0, .int .i64 2]) (by simp [results, Try.results14, go_sem, r0, r1, r2, r3]) rfl ?_
    have h4 := Keeps.four W2 (w.heap.size + 1 + 1) (.string e0) (.int .i64 0) (.string e0) (.slice none 0 0)
    exact TreeRes.zero ((hK.trans hk').trans' h4 (fun b hb hl => by omega))
end Go.Proofs.Ytnphhibfiklfjaa
