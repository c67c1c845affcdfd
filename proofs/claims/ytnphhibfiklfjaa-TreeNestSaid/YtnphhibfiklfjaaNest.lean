/-
  espalierlaw4.TreeNest: its walk.
-/
import Derived.Test.YtnphhibfiklfjaaNestJ
import Derived.Test.YtnphhibfiklfjaaWhole
import Derived.Test.YtnphhibfiklfjaaPlayE
import Derived.Test.YtnphhibfiklfjaaBegun
set_option linter.unusedVariables false
set_option linter.unusedSimpArgs false
namespace Go.Proofs.Ytnphhibfiklfjaa
open Go.RowKit Go.Shelf
attribute [local go_sem] Oper.semAt_some

set_option maxRecDepth 100000 in
set_option maxHeartbeats 12800000 in
theorem treeNest_any (x : Nd) (cp : Option Addr) (cl cc : Nat) (st : Int) (A : Nat → Prop) (w : World) (h : Tv w A x.k x.t x.c cp cl cc) (hst : (Lit.int .i64 st).wf = true) :
    Calls Try.prog 4 #[tv x.k x.n x.t cp cl cc, .int .i64 st] w fun e w' => e = .returned (.bool true) ∧ Keeps (fun _ => False) w w' := by
  obtain ⟨w2, hw2⟩ : ∃ w2, w2 = ((w.alloc (.cells (four x.k x.n x.t cp cl cc) T)).alloc (.cells #[.int .i64 st] 3)).alloc (.cells #[.bool false] 4) := ⟨_, rfl⟩
  have hK2 : Keeps (fun _ => False) w w2 := by rw [hw2]; exact (((Keeps.refl _ w).alloc _).alloc _).alloc _
  have hs2 : w2.heap.size = w.heap.size + 3 := by rw [hw2]; simp
  have hX : w2.heap[w.heap.size]? = some (.cells (four x.k x.n x.t cp cl cc) T (0, 0)) := by
    rw [hw2]
    exact (((Keeps.refl (fun _ => False) (w.alloc (.cells (four x.k x.n x.t cp cl cc) T))).alloc _).alloc _).heap (heap_alloc_new _ _)
  have hS : w2.heap[w.heap.size + 1]? = some (.cells #[.int .i64 st] 3 (0, 0)) := by
    rw [hw2]
    have := ((Keeps.refl (fun _ => False) ((w.alloc (.cells (four x.k x.n x.t cp cl cc) T)).alloc (.cells #[.int .i64 st] 3))).alloc (.cells #[.bool false] 4)).heap (heap_alloc_new (w.alloc (.cells (four x.k x.n x.t cp cl cc) T)) (.cells #[.int .i64 st] 3))
    simpa using this
  have hR : w2.heap[w.heap.size + 1 + 1]? = some (.cells #[.bool false] 4 (0, 0)) := by
    rw [hw2]
    have := heap_alloc_new ((w.alloc (.cells (four x.k x.n x.t cp cl cc) T)).alloc (.cells #[.int .i64 st] 3)) (.cells #[.bool false] 4)
    simpa using this
  have ht2 := h.top.next hK2
  have HW := Lib.hid hw2
  clear hw2 h
  refine calls_marks Try.func4 rfl ?_
  simp only [Try.ntmps4, List.size_toArray, List.length_cons, List.length_nil, Nat.reduceAdd, Nat.reduceSub, Array.replicate_succ, Array.replicate_zero, List.push_toArray, List.append_toArray, List.nil_append, List.cons_append]
  go_upto_region 1 with fail
  rw [← HW.out]
  go_wp2_with fail
  refine (begun_any _).mono ?_
  rintro e W1 ⟨rfl, hk1⟩
  have hK := hK2.trans hk1
  have hX := hk1.heap hX
  have hS := hk1.heap hS
  have hR := hk1.heap hR
  have ht := ht2.next hk1
  have hs1 := hk1.size
  clear hk1 ht2 hK2
  obtain ⟨x0, x1, x2, x3, _⟩ := box4 hX
  go_wp2_with fail
  refine (All_any x cp cl cc _ W1 ht).mono ?_
  rintro e W ⟨lp, ll, lc, xs, bs, rfl, hSt, hk3⟩
  obtain ⟨W4, hW4⟩ : ∃ W4, W4 = W.alloc (.cells #[.slice lp ll lc] 40) := ⟨_, rfl⟩
  obtain ⟨wb, hwb⟩ : ∃ b, b = W.heap.size := ⟨_, rfl⟩
  have hk4 : Keeps (fun _ => False) W W4 := by rw [hW4]; exact (Keeps.refl _ _).alloc _
  have hwt : W4.heap[wb]? = some (.cells #[.slice lp ll lc] 40 (0, 0)) := by rw [hW4, hwb]; exact heap_alloc_new _ _
  have hk14 := hk3.trans hk4
  have HS := Lib.hid (hSt.keeps hk4 (fun _ h => h.elim))
  have HW4 := Lib.hid hW4
  have HWB := Lib.hid hwb
  have HX := Lib.hid (hk14.heap hX)
  have HSb := Lib.hid (hk14.heap hS)
  have HR := Lib.hid (hk14.heap hR)
  have HK := Lib.hid (hK.trans hk14)
  have ht4 := ht.next hk14
  have hwbl : w.heap.size + 1 + 1 < wb := by have := hk3.size; omega
  obtain ⟨N, hN⟩ : ∃ N, (eachL x).length = N := ⟨_, rfl⟩
  have hll : ll = N := by
    rcases HS.out.row.2 with ⟨h1, h2⟩ | ⟨g', cap', cur, h1, h2, _⟩
    · simp only [Value.slice.injEq] at h1; omega
    · simp only [Value.slice.injEq] at h1; omega
  subst hll
  have HN := Lib.hid hN
  have w0 : W4.cell? ⟨wb, 0, none⟩ = some (.slice lp ll lc) := by simp [World.cell?, hwt]
  clear hSt hk3 hk4 hW4 hwb hX hS hR hK ht hk14 hN x0 x1 x2 x3
  by_cases hbig : 60 < ll
  · have hq : (60 : Int) < (ll : Int) := by omega
    obtain ⟨r0, r1⟩ : W4.cell? ⟨w.heap.size + 1 + 1, 0, none⟩ = some (.bool false) ∧ W4.frozen? ⟨w.heap.size + 1 + 1, 0, none⟩ = false := by simp [World.cell?, World.frozen?, HR.out]
    go_upto_region 4 with fail
    rw [← HW4.out, ← HWB.out]
    go_wp2_with fail
    have hres : (W4.setCell ⟨w.heap.size + 1 + 1, 0, none⟩ (.bool true)).cell? ⟨w.heap.size + 1 + 1, 0, none⟩ = some (.bool true) := by simp [World.cell?, heap_set HR.out]
    refine ret_plain (v := .bool true) (by simp [results, Try.results4, go_sem, hres]) ⟨rfl, ?_⟩
    exact HK.out.trans' ((Keeps.refl (fun b => b = w.heap.size + 1 + 1) W4).setCell (p := ⟨w.heap.size + 1 + 1, 0, none⟩) (fun _ => rfl) _) (fun b hb hl => by omega)
  · have hq : ¬ (60 : Int) < (ll : Int) := by omega
    go_upto_region 4 with fail
    rw [← HW4.out, ← HWB.out]
    go_upto_region 7 with fail
    obtain ⟨pb, hpb⟩ : ∃ b, b = W4.heap.size := ⟨_, rfl⟩
    obtain ⟨W5, hW5⟩ : ∃ W5, W5 = (W4.alloc (.cells #[.slice none 0 0, .slice none 0 0, .int .i64 0, .slice none 0 0] 44)).alloc (.cells #[.pointer (some ⟨pb, 0, none⟩)] 42) := ⟨_, rfl⟩
    have hk5 : Keeps (fun _ => False) W4 W5 := by rw [hW5]; exact ((Keeps.refl _ _).alloc _).alloc _
    have hP5 : W5.heap[pb]? = some (.cells #[.slice none 0 0, .slice none 0 0, .int .i64 0, .slice none 0 0] 44 (0, 0)) := by
      rw [hW5, hpb]
      exact ((Keeps.refl (fun _ => False) (W4.alloc (.cells #[.slice none 0 0, .slice none 0 0, .int .i64 0, .slice none 0 0] 44))).alloc _).heap (heap_alloc_new _ _)
    have hB5 : W5.heap[pb + 1]? = some (.cells #[.pointer (some ⟨pb, 0, none⟩)] 42 (0, 0)) := by
      rw [hW5]
      have := heap_alloc_new (W4.alloc (.cells #[.slice none 0 0, .slice none 0 0, .int .i64 0, .slice none 0 0] 44)) (.cells #[.pointer (some ⟨pb, 0, none⟩)] 42)
      simpa [hpb] using this
    have hs5 : W5.heap.size = pb + 2 := by rw [hW5, hpb]; simp
    have hwbp : wb < pb := by have := heap_lt hwt; omega
    have HP := Lib.hid hpb
    have HW5 := Lib.hid hW5
    rw [← hpb, ← hW5]
    obtain ⟨x0, x1, x2, x3, _⟩ := box4 (hk5.heap HX.out)
    have ht5 := ht4.next hk5
    clear hW5 hpb w0
    go_wp2_with fail
    refine (Each_any x cp cl cc _ W5 ht5).mono ?_
    rintro e W6 ⟨gf, lb, It, rfl, heg, hIt, hk6, hit⟩
    obtain ⟨itb, hitb⟩ : ∃ b, b = W6.heap.size := ⟨_, rfl⟩
    obtain ⟨W0, hW0⟩ : ∃ W0, W0 = (W6.alloc (.cells #[.func (.func gf) #[] lb] 29)).alloc (.cells #[.int .i64 0] 3) := ⟨_, rfl⟩
    have hk0 : Keeps (fun _ => False) W6 W0 := by rw [hW0]; exact ((Keeps.refl _ _).alloc _).alloc _
    have hT0 : W0.heap[itb]? = some (.cells #[.func (.func gf) #[] lb] 29 (0, 0)) := by
      rw [hW0, hitb]
      exact ((Keeps.refl (fun _ => False) (W6.alloc (.cells #[.func (.func gf) #[] lb] 29))).alloc _).heap (heap_alloc_new _ _)
    have hI0 : W0.heap[itb + 1]? = some (.cells #[.int .i64 0] 3 (0, 0)) := by
      rw [hW0]
      have := heap_alloc_new (W6.alloc (.cells #[.func (.func gf) #[] lb] 29)) (.cells #[.int .i64 0] 3)
      simpa [hitb] using this
    have hs0 : W0.heap.size = itb + 2 := by rw [hW0, hitb]; simp
    have hs6 := hk6.size
    have HI := Lib.hid hitb
    have HW0 := Lib.hid hW0
    have t0 : W0.cell? ⟨itb, 0, none⟩ = some (.func (.func gf) #[] lb) := by simp [World.cell?, hT0]
    have hpi : pb + 1 < itb := by have := heap_lt hB5; omega
    have HE := Lib.hid heg
    have HIT := Lib.hid hit
    clear hW0 hitb x0 x1 x2 x3 ht5 heg hit ht4
    go_upto_region 9 with fail
    rw [← HI.out, ← HW0.out]
    go_wp2_with fail
    have hIt0 : ∀ b, It b → b < W6.heap.size := fun b hb => (hIt b hb).2
    have hIlow : Hid (∀ b, b ≤ pb + 1 → ¬ It b) := Lib.hid fun b hb h => by have := (hIt b h).1; omega
    have hIhi : Hid (∀ b, itb ≤ b → ¬ It b) := Lib.hid fun b hb h => by have := hIt0 b h; have := HI.out; omega
    have hIib : ¬ It (itb + 1) := hIhi.out _ (by omega)
    have hIpb : ¬ It pb := hIlow.out _ (by omega)
    have hibl : itb + 1 < W0.heap.size := by omega
    have hpbl : pb < W0.heap.size := by omega
    have hitl : itb < W0.heap.size := by omega
    have HS0 := Lib.hid hs0
    have HS5 := Lib.hid hs5
    have hW45 : W4.heap.size ≤ W5.heap.size := by have := HP.out; omega
    have hW56 : pb + 2 ≤ W5.heap.size := by omega
    clear hs0 hs5
    have HK0 := Lib.hid hk0
    have HWT := Lib.hid hwt
    have HK6 := Lib.hid hk6
    have HK5 := Lib.hid hk5
    have hllb : ll ≤ 60 := by omega
    clear hk0 hk6 hk5 hwt
    refine (wpIn_wide (n := 3 + 2)).1 (range_law2 3 (gf := gf) (lb := lb) (by rfl) HE.out HIT.out (HK0.out.mono fun _ h _ => h.elim) hIt0 (fun j vs Y W h => by obtain ⟨p, x, pv, cp, cl, cc, bs, _, rfl, _⟩ := h; rfl)
      (fun j B W => NJ It (fun b => b = pb) (fun b => W0.heap.size ≤ b) W0 (W0.heap.size + 2) pb (itb + 1) (j * (ll + 1)) (j : Int) B W) (fun _ _ _ => False) (fun j B W W' h hk => h.stab hibl hIib hpbl hIpb hk) (fun _ _ _ _ h _ => h) (fun b => b < W0.heap.size ∧ ¬ It b) (fun b hb => hb)
      ⟨⟨[], 0, _, _, by rw [Nat.zero_mul]; exact NB.start (HK0.out.heap (HK6.out.heap hP5)) _ _⟩, fun b h1 h2 => ⟨h1, h2⟩, Keeps.refl _ _, hI0⟩ ?round ?done ?stop)
    case stop => exact fun _ _ _ h => h.elim
    case done =>
      rintro B W hU hD hkI hBne
      rw [HN.out] at hU
      have hKU : Keeps (fun b => b = pb ∨ b = itb + 1) W0 W := Keeps.both hU.2.keeps hkI
      have hsU := hKU.size
      have hK4U : Keeps (fun _ => False) W4 W := ((HK5.out.trans HK6.out).trans HK0.out).trans' hKU (fun b hb hl => by have := HP.out; omega)
      have hA := hU.2.at_
      have hWt := hK4U.heap HWT.out
      have hRb := hK4U.heap HR.out
      have hBb := (hKU.block _ (by omega) (fun h => by omega)).trans (HK0.out.heap (HK6.out.heap hB5))
      have a0 : W.cell? ⟨itb + 1, 0, none⟩ = some (.int .i64 (ll : Int)) := by simp [World.cell?, hA]
      have w0 : W.cell? ⟨wb, 0, none⟩ = some (.slice lp ll lc) := by simp [World.cell?, hWt]
      have b0 : W.cell? ⟨pb + 1, 0, none⟩ = some (.pointer (some ⟨pb, 0, none⟩)) := by simp [World.cell?, hBb]
      have hll2 : ll * (ll + 1) ≤ 60 * 61 := Nat.mul_le_mul (by omega) (by omega)
      have hDl := heap_lt hD
      have hT : Hid (Calls Try.prog 19 #[.pointer (some ⟨pb, 0, none⟩)] W fun e w' => e = .returned (.bool true) ∧ Keeps (fun b => W0.heap.size + 1 ≤ b) W w') := by
        obtain ⟨⟨L, sz, lv, nv, hN⟩, _⟩ := hU
        exact Lib.hid (Whole_any _ pb L sz lv nv W (hN.pa.lower (D' := W0.heap.size + 1) (by omega)) (by omega) (by omega) (by have := hN.cnt; omega) (fun r hr => (hN.brow r hr).2))
      have hKF := HK.out.trans hK4U
      clear hA hWt hBb hU hkI
      go_wp2_with fail
      refine hT.out.mono ?_
      clear a0 w0 b0
      rintro e V ⟨rfl, hkV⟩
      have hsV := hkV.size
      have hR1 := (hkV.block _ (heap_lt hRb) (fun h => by omega)).trans hRb
      have hD1 := (hkV.block _ hDl (fun h => by omega)).trans hD
      obtain ⟨r0, r1⟩ : V.cell? ⟨w.heap.size + 1 + 1, 0, none⟩ = some (.bool false) ∧ V.frozen? ⟨w.heap.size + 1 + 1, 0, none⟩ = false := by simp [World.cell?, World.frozen?, hR1]
      go_wp2_with fail
      refine ret_mark (v := .bool true) ((Below.heap_setCell _ _ _ _ (show W0.heap.size ≠ w.heap.size + 1 + 1 by omega)).trans hD1) ?_ ⟨rfl, ?_⟩
      · have hres : ((V.setCell ⟨w.heap.size + 1 + 1, 0, none⟩ (.bool true)).putObj W0.heap.size (.deferred none)).cell? ⟨w.heap.size + 1 + 1, 0, none⟩ = some (.bool true) := by
          have h1 : ((V.setCell ⟨w.heap.size + 1 + 1, 0, none⟩ (.bool true)).putObj W0.heap.size (.deferred none)).heap[w.heap.size + 1 + 1]? = some (.cells #[.bool true] 4 (0, 0)) := by
            rw [World.putObj_heap_other (by omega), heap_set hR1]; rfl
          simp [World.cell?, h1]
        simp [results, Try.results4, go_sem, hres]
      · have hsz4 : w.heap.size ≤ W4.heap.size := HK.out.size
        have hss : W4.heap.size ≤ W0.heap.size := by have := HP.out; omega
        exact ((hKF.trans' hkV (fun b hb hl => by omega)).trans' ((Keeps.refl (fun b => b = w.heap.size + 1 + 1) V).setCell (p := ⟨w.heap.size + 1 + 1, 0, none⟩) (fun _ => rfl) _) (fun b hb hl => by omega)).trans' (Keeps.putObj _ _ _) (fun b hb hl => by omega)
    case round =>
      rintro j B2 Y vs W1 hj hBl hNJ ⟨p, y, pv, cp', cl', cc', bs', hL, rfl, hrow, hown, hsz, hYe⟩ hY hBD hlt hkI
      have hJ := hNJ.2
      obtain ⟨pp1, pc1, rfl, hints⟩ := hrow.ints hrow.le'
      gi_wp2
      obtain ⟨yb, hyb⟩ : ∃ yb, yb = W1.heap.size := ⟨_, rfl⟩
      obtain ⟨W7, hW7⟩ : ∃ W7, W7 = W1.alloc (.cells (four y.k y.n y.t cp' cl' cc') T) := ⟨_, rfl⟩
      have hka : Keeps (fun _ => False) W1 W7 := by rw [hW7]; exact (Keeps.refl _ W1).alloc _
      have hby : W7.heap[yb]? = some (.cells (four y.k y.n y.t cp' cl' cc') T (0, 0)) := by rw [hW7, hyb]; exact heap_alloc_new _ _
      rw [← hW7, ← hyb]
      refine ⟨hka.mono fun _ h _ => h.elim, fun W₂ hk2 hrec => ?_⟩
      obtain ⟨r0, hrec⟩ := hrec
      have hW2 : Keeps (fun b => b = W0.heap.size + 1) W1 W₂ := (hka.mono (S' := fun b => b = W0.heap.size + 1) fun _ h _ => h.elim).trans' hk2 (fun b hb _ => hb)
      have hs1 := hJ.keeps.size
      have hs2 := hW2.size
      have hjN : j < ll := by rw [← HN.out]; exact hj
      have hK02 : Keeps (fun b => It b ∨ b = pb ∨ b = itb + 1) W0 W₂ := hJ.keeps.trans' hW2 (fun b hb hl => by omega)
      have hK4 : Keeps (fun _ => False) W4 W₂ := ((HK5.out.trans HK6.out).trans HK0.out).trans' hK02 (fun b hb hl => by
        rcases hb with hb | hb | hb
        · have := (hIt b hb).1; have := HP.out; omega
        · have := HP.out; omega
        · have := HP.out; omega)
      have hS2 := HS.out.keeps hK4 (fun b hb => hb.elim)
      have hA2 : W₂.heap[itb + 1]? = some (.cells #[.int .i64 (j : Int)] 3 (0, 0)) := (hW2.block _ (heap_lt hJ.at_) (by omega)).trans hJ.at_
      have hWt2 : W₂.heap[wb]? = some (.cells #[.slice lp ll lc] 40 (0, 0)) := hK4.heap HWT.out
      have hBb2 : W₂.heap[pb + 1]? = some (.cells #[.pointer (some ⟨pb, 0, none⟩)] 42 (0, 0)) := (hK02.block _ (by omega) (fun h => by have := hIlow.out (pb + 1) (Nat.le_refl _); rcases h with h | h | h; exact this h; omega; omega)).trans (HK0.out.heap (HK6.out.heap hB5))
      have hTb2 : W₂.heap[itb]? = some (.cells #[.func (.func gf) #[] lb] 29 (0, 0)) := (hK02.block _ (by omega) (fun h => by have := hIhi.out itb (Nat.le_refl _); rcases h with h | h | h; exact this h; omega; omega)).trans hT0
      have hby : W₂.heap[yb]? = some (.cells (four y.k y.n y.t cp' cl' cc') T (0, 0)) := (hk2.block _ (heap_lt hby) (by omega)).trans hby
      have hYl : ∀ b, (Value.slice pp1 p.length pc1).ownBlock = some b ∨ b ∈ bs' → b < W1.heap.size ∧ b ≠ W0.heap.size + 1 := fun b hb => by
        have := hY b (by rw [hYe]; exact hb)
        omega
      have hrow2' := hrow.keeps hW2 (fun b hb => ⟨(hYl b (.inl hb)).1, (hYl b (.inl hb)).2⟩)
      have hi2 := hints.keeps hW2 (fun b hb e => (hYl b (.inl hb)).2 e)
      have hplen : p.length ≤ 1000 := by
        have h1 : x.small ∧ eachL x = pre [] x := by
          unfold eachL at hL ⊢
          split at hL
          · rename_i h1; exact ⟨h1, by simp [h1]⟩
          · simp at hL
        have h2 := sub_len p x (pre_sub x _ (h1.2 ▸ List.mem_of_getElem? hL))
        have h3 := HN.out
        rw [h1.2, pre_len] at h3
        omega
      have ht2 := (hown.keeps hW2 (fun b hb => ⟨(hYl b (.inr hb)).1, (hYl b (.inr hb)).2⟩)).tv hsz
      obtain ⟨pv2, cp2, cl2, cc2, bs2, g0, g1, g2, g3, g4, hsz2, hrow2, hown2, _⟩ := hS2.rep.at_ hL
      obtain ⟨pp2, pc2, rfl, hints2⟩ := hrow2.ints hrow2.le'
      have hty := hown2.tv hsz2
      have hform : ∃ g, lp = some ⟨g, 0, none⟩ := by
        rcases hS2.row.2 with ⟨h1, h2⟩ | ⟨g', cap', cur, h1, h2, _⟩
        · simp only [Value.slice.injEq] at h1; omega
        · simp only [Value.slice.injEq] at h1; exact ⟨g', h1.1⟩
      obtain ⟨g, rfl⟩ := hform
      have hrowL := hS2.row
      rw [HN.out] at hrowL
      have c0 : W₂.cell? ⟨g, j * 5, none⟩ = some (.slice pp2 p.length pc2) := (hrowL.cellAt _ (by omega)).trans g0
      have c1 : W₂.cell? ⟨g, j * 5 + 1, none⟩ = some (.string y.k) := (hrowL.cellAt _ (by omega)).trans g1
      have c2 : W₂.cell? ⟨g, j * 5 + 2, none⟩ = some (.int .i64 y.n) := (hrowL.cellAt _ (by omega)).trans g2
      have c3 : W₂.cell? ⟨g, j * 5 + 3, none⟩ = some (.string y.t) := (hrowL.cellAt _ (by omega)).trans g3
      have c4 : W₂.cell? ⟨g, j * 5 + 4, none⟩ = some (.slice cp2 cl2 cc2) := (hrowL.cellAt _ (by omega)).trans g4
      have a0 : W₂.cell? ⟨itb + 1, 0, none⟩ = some (.int .i64 (j : Int)) := by simp [World.cell?, hA2]
      have w0 : W₂.cell? ⟨wb, 0, none⟩ = some (.slice (some ⟨g, 0, none⟩) ll lc) := by simp [World.cell?, hWt2]
      obtain ⟨y0, y1, y2, y3, _⟩ := box4 hby
      have hEP : Hid (∀ W, Keeps (fun _ => False) W₂ W → Calls Try.prog 16 #[.slice pp1 p.length pc1, .slice pp2 p.length pc2] W fun e w' => e = .returned (.bool true) ∧ Keeps (fun _ => False) W w') := Lib.hid fun W hk => by
        have := EqPath_any p p pp1 pp2 p.length p.length pc1 pc2 _ _ W (hi2.keeps hk (fun _ _ h => h)) (hints2.keeps hk (fun _ _ h => h))
        rwa [decide_eq_true rfl] at this
      have hEQ : Hid (∀ W, Keeps (fun _ => False) W₂ W → Calls Try.prog 17 #[tv y.k y.n y.t cp' cl' cc', tv y.k y.n y.t cp2 cl2 cc2] W fun e w' => e = .returned (.bool true) ∧ Keeps (fun _ => False) W w') := Lib.hid fun W hk => by
        have := Eq_any (y.c.nodes + 1) y.k y.k y.n y.n y.t y.t y.c y.c _ _ cp' cp2 cl' cc' cl2 cc2 W (by omega) (ht2.next hk) (hty.next hk)
        rwa [eqB_self] at this
      have ka := fun d os => cell_regrown a0 d os
      have kw := fun d os => cell_regrown w0 d os
      have kc0 := fun d os => cell_regrown c0 d os
      have kc1 := fun d os => cell_regrown c1 d os
      have kc2 := fun d os => cell_regrown c2 d os
      have kc3 := fun d os => cell_regrown c3 d os
      have kc4 := fun d os => cell_regrown c4 d os
      have ky0 := fun d os => cell_regrown y0 d os
      have ky1 := fun d os => cell_regrown y1 d os
      have ky2 := fun d os => cell_regrown y2 d os
      have ky3 := fun d os => cell_regrown y3 d os
      have hj0 : (0 : Int) ≤ (j : Int) := Int.natCast_nonneg _
      have hj1 : (j : Int) < (ll : Int) := by omega
      have hj2 : ¬ (ll : Int) ≤ (j : Int) := by omega
      have hj3 : decide ((ll : Int) ≤ (j : Int)) = false := by simp; omega
      have HA2 := Lib.hid hA2
      have HB2 := Lib.hid hBb2
      have HT2 := Lib.hid hTb2
      have HJ := Lib.hid hJ
      have HNJ := Lib.hid hNJ
      have HW2 := Lib.hid hW2
      have HBl := Lib.hid hBl
      have HY := Lib.hid hY
      have HYE := Lib.hid hYe
      have HBD := Lib.hid hBD
      have HROW := Lib.hid hrow2'
      have HKI := Lib.hid hkI
      have HK4 := Lib.hid hK4
      have HK02 := Lib.hid hK02
      have HREC := Lib.hid hrec
      clear hA2 hBb2 hTb2 hJ hNJ hW2 hBl hYe hYl hBD hY hL hrow hown hints hi2 ht2 hints2 hty hS2 hK4 hrowL hWt2 hby g0 g1 g2 g3 g4 hrow2 hown2 hk2 hka hyb hW7 c0 c1 c2 c3 c4 a0 w0 y0 y1 y2 y3 hrow2' hkI hK02 hrec
      gi_wp2_with fail
      refine region_round (by kernel_rfl) (by kernel_rfl) (by kernel_rfl) ?_
      repeat (refine wpQuietIn_step (fun _ _ _ _ => trivial) (fun K hK => ?_); go_simp; first | (refine hK _ ?_; clear hK K) | (apply Exists.intro; refine ⟨fun _ => ?_, hK _ ?_⟩; (first | exact quiet_call hEP.out | exact quiet_call hEQ.out | exact ⟨trivial, quiet_call hEP.out⟩ | exact ⟨trivial, quiet_call hEQ.out⟩ | exact ⟨by simp, quiet_call hEP.out⟩ | exact ⟨by simp, quiet_call hEQ.out⟩); clear hK K))
      refine wpQuietIn_nil ?_
      intro W8 hk8
      have hW6W0 : W6.heap.size ≤ W0.heap.size := HK0.out.size
      clear ka kw kc0 kc1 kc2 kc3 kc4 ky0 ky1 ky2 ky3 hEP hEQ hj3
      obtain ⟨kb, hkb⟩ : ∃ b, b = W8.heap.size := ⟨_, rfl⟩
      obtain ⟨V0, hV0⟩ : ∃ V0, V0 = W8.alloc (.cells #[.int .i64 0] 3) := ⟨_, rfl⟩
      have hk9 : Keeps (fun _ => False) W8 V0 := by rw [hV0]; exact (Keeps.refl _ _).alloc _
      have hKb0 : V0.heap[kb]? = some (.cells #[.int .i64 0] 3 (0, 0)) := by rw [hV0, hkb]; exact heap_alloc_new _ _
      have hk20 := hk8.trans hk9
      have hkbV : kb < V0.heap.size := heap_lt hKb0
      have hpbV : pb < V0.heap.size := by have := hk20.size; omega
      have hsV0 : W₂.heap.size ≤ kb := by rw [hkb]; exact hk8.size
      have hT9 := hk20.heap HT2.out
      have t0 : V0.cell? ⟨itb, 0, none⟩ = some (.func (.func gf) #[] lb) := by simp [World.cell?, hT9]
      have HKB := Lib.hid hkb
      have HV0 := Lib.hid hV0
      rw [hV0] at t0
      clear hkb hV0 hT9 hk8 hk9
      gi_wp2_with fail
      rw [← HV0.out, ← HKB.out]
      have hIkb : ¬ It kb := fun hb => by have := hIt0 _ hb; have := hW6W0; omega
      refine range_lawN 1 (r₀ := r0) (hk20.heap HREC.out) (gf := gf) (lb := lb) (by rfl) HE.out HIT.out (((HKI.out.trans' HW2.out (fun b hb hl hI => by have := hIt0 b hI; omega)).trans' hk20 (fun _ h _ => h.elim))) hIt0 (fun j vs Y W h => by obtain ⟨p, x, pv, cp, cl, cc, bs, _, rfl, _⟩ := h; rfl)
        (fun k B W => NJ It (fun b => b = pb ∨ W0.heap.size ≤ b ∧ B2 b) (fun b => W0.heap.size ≤ b ∧ (B2 b ∨ V0.heap.size ≤ b)) V0 (W0.heap.size + 2) pb kb (j * (ll + 1) + k) (k : Int) B W ∧ (k = 0 ∨ (k : Int) ≠ st))
        (fun c B W => c = .exit 2 ∧ NJ It (fun b => b = pb ∨ W0.heap.size ≤ b ∧ B2 b) (fun b => W0.heap.size ≤ b ∧ (B2 b ∨ V0.heap.size ≤ b)) V0 (W0.heap.size + 2) pb kb (j * (ll + 1) + ll) st B W)
        (fun k B W W' h hk => ⟨h.1.stab hkbV hIkb hpbV hIpb hk, h.2⟩) (fun c B W W' h hk => ⟨h.1, h.2.stab hkbV hIkb hpbV hIpb hk⟩) (fun b => b < V0.heap.size ∧ ¬ It b) (fun b hb => hb) ?start ?round2 ?done2 ?stop2
      case start =>
        obtain ⟨⟨L, sz, lv, nv, hN⟩, _⟩ := HNJ.out
        refine ⟨⟨⟨L, sz, lv, nv, ?_⟩, fun b h1 h2 => ⟨h1, h2⟩, Keeps.refl _ _, hKb0⟩, .inl rfl⟩
        have h1 := (hN.keep HW2.out (fun b hb => ⟨by omega, fun h => (HBD.out b h.1).2 hb⟩)).keep hk20 (fun _ h => h.elim)
        exact h1.mono (fun b hb => ⟨⟨by have := HBl.out b hb.1; omega, fun h => by have := hIt0 b h; omega⟩, hb.2, .inl hb.1⟩)
      case done2 =>
        rintro B3 U ⟨hU, _⟩ hkI2 hBne
        rw [HN.out] at hU
        have hKU : Keeps (fun b => (b = pb ∨ W0.heap.size ≤ b ∧ B2 b) ∨ b = kb) V0 U := Keeps.both hU.2.keeps hkI2
        have hsU := hKU.size
        have hs20 := hk20.size
        have hs12 := HW2.out.size
        have hs01 := HNJ.out.2.keeps.size
        have hsD : W4.heap.size ≤ W0.heap.size := by have := HP.out; omega
        have hjl : j * (ll + 1) ≤ 60 * 61 := Nat.mul_le_mul (by omega) (by omega)
        have hKU2 : Keeps (fun b => (b = pb ∨ W0.heap.size ≤ b ∧ B2 b) ∨ b = kb) W₂ U := (hk20.mono fun _ h _ => h.elim).trans hKU
        have hK4U : Keeps (fun _ => False) W4 U := HK4.out.trans' hKU2 (fun b hb hl => by have := HP.out; omega)
        have hA := hU.2.at_
        have hSt := hK4U.heap HSb.out
        have hWt := hK4U.heap HWT.out
        have hBb := (hKU2.block _ (by omega) (fun h => by omega)).trans HB2.out
        have hIb := (hKU2.block _ (by omega) (fun h => by omega)).trans HA2.out
        have a0 : U.cell? ⟨kb, 0, none⟩ = some (.int .i64 (ll : Int)) := by simp [World.cell?, hA]
        have s0 : U.cell? ⟨w.heap.size + 1, 0, none⟩ = some (.int .i64 st) := by simp [World.cell?, hSt]
        have w0 : U.cell? ⟨wb, 0, none⟩ = some (.slice (some ⟨g, 0, none⟩) ll lc) := by simp [World.cell?, hWt]
        have b0 : U.cell? ⟨pb + 1, 0, none⟩ = some (.pointer (some ⟨pb, 0, none⟩)) := by simp [World.cell?, hBb]
        obtain ⟨vb, hvb⟩ : ∃ b, b = U.heap.size := ⟨_, rfl⟩
        obtain ⟨U9, hU9⟩ : ∃ U9, U9 = U.alloc (.cells #[.slice pp1 p.length pc1] 32) := ⟨_, rfl⟩
        have hk9 : Keeps (fun _ => False) U U9 := by rw [hU9]; exact (Keeps.refl _ _).alloc _
        have hVb : U9.heap[vb]? = some (.cells #[.slice pp1 p.length pc1] 32 (0, 0)) := by rw [hU9, hvb]; exact heap_alloc_new _ _
        have HVB := Lib.hid hvb
        have HU9 := Lib.hid hU9
        have hT : Calls Try.prog 18 #[.pointer (some ⟨pb, 0, none⟩), .slice (some ⟨vb, 0, none⟩) 1 1] U9 fun e w' => (∃ v, e = .returned v) ∧ TakeN (W0.heap.size + 2) pb (j * (ll + 1) + ll) (fun b => (B3 b ∧ W0.heap.size ≤ b ∧ (B2 b ∨ V0.heap.size ≤ b)) ∧ b < vb) (.slice pp1 p.length pc1) U9 w' := by
          obtain ⟨⟨L, sz, lv, nv, hN⟩, _⟩ := hU
          have h1 := (hN.mono' (S' := fun b => (B3 b ∧ W0.heap.size ≤ b ∧ (B2 b ∨ V0.heap.size ≤ b)) ∧ b < vb) (fun b hb hl _ => ⟨hb, by omega⟩)).keep hk9 (fun _ h => h.elim)
          have hpy : ∀ b, (Value.slice pp1 p.length pc1).ownBlock = some b → ¬ B2 b ∧ W0.heap.size + 1 < b ∧ b < W1.heap.size := fun b hb => HY.out b (by rw [HYE.out]; exact .inl hb)
          have hpr := (HROW.out.keeps hKU2 (fun b hb => ⟨HROW.out.lt hb, fun h => by
            have h1 := hpy b hb
            rcases h with (h | ⟨_, h⟩) | h
            · omega
            · exact h1.1 h
            · omega⟩)).keeps hk9
          refine Take_nb h1 (by omega) (by have := hk9.size; omega) (by omega) hVb ⟨by omega, fun h => by omega⟩ (hpr (fun b hb => ⟨?_, fun h => h⟩)) hplen (fun b hb => ?_)
          · have := hpy b hb; omega
          · have h2 := hpy b hb
            exact ⟨by omega, fun h => by
              rcases h.1.2.2 with h3 | h3
              · exact h2.1 h3
              · omega, by omega⟩
        have hI9 := hk9.heap hIb
        clear hA hSt hWt hBb hIb hvb hU9
        gi_wp2_with fail
        rw [← HU9.out, ← HVB.out]
        refine ⟨trivial, (CallsIn.inRound _ (callsIn_wide.2 hT)).mono ?_⟩
        clear hT b0 a0 s0 w0
        rintro e U10 ⟨⟨v0, rfl⟩, hT⟩
        have hkT : Keeps (fun b => b = pb ∨ W0.heap.size ≤ b) U9 U10 := by
          obtain ⟨_, _, _, _, _, h⟩ := hT
          exact h.mono (fun b hb _ => hb.imp_right (fun h => by have := h.1; omega))
        have hI10 := (hkT.block _ (heap_lt hI9) (fun h => by omega)).trans hI9
        have a0 : U10.cell? ⟨itb + 1, 0, none⟩ = some (.int .i64 (j : Int)) := by simp [World.cell?, hI10]
        have a1 : U10.frozen? ⟨itb + 1, 0, none⟩ = false := by simp [World.frozen?, hI10]
        have hBpb : B2 pb := HNJ.out.2.own pb hpbl hIpb
        have hend := Lib.hid (NJ.took (It := It) (X := fun b => b = pb) (S := fun b => W0.heap.size ≤ b) (v' := (j : Int) + 1) HNJ.out.2 HW2.out (by omega) ((hKU2.mono (S' := fun b => b = pb ∨ W0.heap.size ≤ b) (fun b hb _ => by omega)).trans' hk9 (fun _ h => h.elim)) ((hKU2.mono (S' := fun b => B2 b ∨ Y b) (fun b hb hl => by
            rcases hb with (hb | ⟨_, hb⟩) | hb
            · exact .inl (hb ▸ hBpb)
            · exact .inl hb
            · omega)).trans' hk9 (fun _ h => h.elim)) hI9 hT (fun b hb hl => ⟨hb.1.2.2.imp_right (fun h => by omega), hb.1.2.1⟩) (fun b hb => by rw [HYE.out]; exact .inl hb) (fun b hb => by have := (HY.out b hb).2.1; exact ⟨by omega, by omega⟩) (fun b hb => by show W0.heap.size ≤ b; omega)
            HBl.out hibl hIib (fun h => by omega) (by omega) hpbl hIpb ⟨rfl, fun b h1 h2 _ => by omega⟩)
        clear hI9 hI10 hT hkT
        gi_wp2_with fail
        obtain ⟨B', e1, e2, e3⟩ := hend.out
        have e4 : (((j + 1 : Nat)) : Int) = (j : Int) + 1 := by omega
        have e5 : (j + 1) * (ll + 1) = j * (ll + 1) + ll + 1 := by rw [Nat.add_mul]; omega
        exact ⟨B', e1, e2, (show NJ _ _ _ _ _ _ _ ((j + 1) * (ll + 1)) (((j + 1 : Nat)) : Int) B' _ by rw [e4, e5]; exact e3)⟩
      case stop2 =>
        rintro c B3 U ⟨rfl, hU⟩ hkI2 hBne
        by_cases hsl : st = (ll : Int)
        · subst hsl
          have hKU : Keeps (fun b => (b = pb ∨ W0.heap.size ≤ b ∧ B2 b) ∨ b = kb) V0 U := Keeps.both hU.2.keeps hkI2
          have hsU := hKU.size
          have hs20 := hk20.size
          have hs12 := HW2.out.size
          have hs01 := HNJ.out.2.keeps.size
          have hsD : W4.heap.size ≤ W0.heap.size := by have := HP.out; omega
          have hjl : j * (ll + 1) ≤ 60 * 61 := Nat.mul_le_mul (by omega) (by omega)
          have hKU2 : Keeps (fun b => (b = pb ∨ W0.heap.size ≤ b ∧ B2 b) ∨ b = kb) W₂ U := (hk20.mono fun _ h _ => h.elim).trans hKU
          have hK4U : Keeps (fun _ => False) W4 U := HK4.out.trans' hKU2 (fun b hb hl => by have := HP.out; omega)
          have hA := hU.2.at_
          have hSt := hK4U.heap HSb.out
          have hWt := hK4U.heap HWT.out
          have hBb := (hKU2.block _ (by omega) (fun h => by omega)).trans HB2.out
          have hIb := (hKU2.block _ (by omega) (fun h => by omega)).trans HA2.out
          have a0 : U.cell? ⟨kb, 0, none⟩ = some (.int .i64 (ll : Int)) := by simp [World.cell?, hA]
          have s0 : U.cell? ⟨w.heap.size + 1, 0, none⟩ = some (.int .i64 (ll : Int)) := by simp [World.cell?, hSt]
          have w0 : U.cell? ⟨wb, 0, none⟩ = some (.slice (some ⟨g, 0, none⟩) ll lc) := by simp [World.cell?, hWt]
          have b0 : U.cell? ⟨pb + 1, 0, none⟩ = some (.pointer (some ⟨pb, 0, none⟩)) := by simp [World.cell?, hBb]
          obtain ⟨vb, hvb⟩ : ∃ b, b = U.heap.size := ⟨_, rfl⟩
          obtain ⟨U9, hU9⟩ : ∃ U9, U9 = U.alloc (.cells #[.slice pp1 p.length pc1] 32) := ⟨_, rfl⟩
          have hk9 : Keeps (fun _ => False) U U9 := by rw [hU9]; exact (Keeps.refl _ _).alloc _
          have hVb : U9.heap[vb]? = some (.cells #[.slice pp1 p.length pc1] 32 (0, 0)) := by rw [hU9, hvb]; exact heap_alloc_new _ _
          have HVB := Lib.hid hvb
          have HU9 := Lib.hid hU9
          have hT : Calls Try.prog 18 #[.pointer (some ⟨pb, 0, none⟩), .slice (some ⟨vb, 0, none⟩) 1 1] U9 fun e w' => (∃ v, e = .returned v) ∧ TakeN (W0.heap.size + 2) pb (j * (ll + 1) + ll) (fun b => (B3 b ∧ W0.heap.size ≤ b ∧ (B2 b ∨ V0.heap.size ≤ b)) ∧ b < vb) (.slice pp1 p.length pc1) U9 w' := by
            obtain ⟨⟨L, sz, lv, nv, hN⟩, _⟩ := hU
            have h1 := (hN.mono' (S' := fun b => (B3 b ∧ W0.heap.size ≤ b ∧ (B2 b ∨ V0.heap.size ≤ b)) ∧ b < vb) (fun b hb hl _ => ⟨hb, by omega⟩)).keep hk9 (fun _ h => h.elim)
            have hpy : ∀ b, (Value.slice pp1 p.length pc1).ownBlock = some b → ¬ B2 b ∧ W0.heap.size + 1 < b ∧ b < W1.heap.size := fun b hb => HY.out b (by rw [HYE.out]; exact .inl hb)
            have hpr := (HROW.out.keeps hKU2 (fun b hb => ⟨HROW.out.lt hb, fun h => by
              have h1 := hpy b hb
              rcases h with (h | ⟨_, h⟩) | h
              · omega
              · exact h1.1 h
              · omega⟩)).keeps hk9
            refine Take_nb h1 (by omega) (by have := hk9.size; omega) (by omega) hVb ⟨by omega, fun h => by omega⟩ (hpr (fun b hb => ⟨?_, fun h => h⟩)) hplen (fun b hb => ?_)
            · have := hpy b hb; omega
            · have h2 := hpy b hb
              exact ⟨by omega, fun h => by
                rcases h.1.2.2 with h3 | h3
                · exact h2.1 h3
                · omega, by omega⟩
          have hI9 := hk9.heap hIb
          clear hA hSt hWt hBb hIb hvb hU9
          gi_wp2_with fail
          rw [← HU9.out, ← HVB.out]
          refine ⟨trivial, (CallsIn.inRound _ (callsIn_wide.2 hT)).mono ?_⟩
          clear hT b0 a0 s0 w0
          rintro e U10 ⟨⟨v0, rfl⟩, hT⟩
          have hkT : Keeps (fun b => b = pb ∨ W0.heap.size ≤ b) U9 U10 := by
            obtain ⟨_, _, _, _, _, h⟩ := hT
            exact h.mono (fun b hb _ => hb.imp_right (fun h => by have := h.1; omega))
          have hI10 := (hkT.block _ (heap_lt hI9) (fun h => by omega)).trans hI9
          have a0 : U10.cell? ⟨itb + 1, 0, none⟩ = some (.int .i64 (j : Int)) := by simp [World.cell?, hI10]
          have a1 : U10.frozen? ⟨itb + 1, 0, none⟩ = false := by simp [World.frozen?, hI10]
          have hBpb : B2 pb := HNJ.out.2.own pb hpbl hIpb
          have hend := Lib.hid (NJ.took (It := It) (X := fun b => b = pb) (S := fun b => W0.heap.size ≤ b) (v' := (j : Int) + 1) HNJ.out.2 HW2.out (by omega) ((hKU2.mono (S' := fun b => b = pb ∨ W0.heap.size ≤ b) (fun b hb _ => by omega)).trans' hk9 (fun _ h => h.elim)) ((hKU2.mono (S' := fun b => B2 b ∨ Y b) (fun b hb hl => by
              rcases hb with (hb | ⟨_, hb⟩) | hb
              · exact .inl (hb ▸ hBpb)
              · exact .inl hb
              · omega)).trans' hk9 (fun _ h => h.elim)) hI9 hT (fun b hb hl => ⟨hb.1.2.2.imp_right (fun h => by omega), hb.1.2.1⟩) (fun b hb => by rw [HYE.out]; exact .inl hb) (fun b hb => by have := (HY.out b hb).2.1; exact ⟨by omega, by omega⟩) (fun b hb => by show W0.heap.size ≤ b; omega)
              HBl.out hibl hIib (fun h => by omega) (by omega) hpbl hIpb ⟨rfl, fun b h1 h2 _ => by omega⟩)
          clear hI9 hI10 hT hkT
          gi_wp2_with fail
          obtain ⟨B', e1, e2, e3⟩ := hend.out
          have e4 : (((j + 1 : Nat)) : Int) = (j : Int) + 1 := by omega
          have e5 : (j + 1) * (ll + 1) = j * (ll + 1) + ll + 1 := by rw [Nat.add_mul]; omega
          exact ⟨B', e1, e2, (show NJ _ _ _ _ _ _ _ ((j + 1) * (ll + 1)) (((j + 1 : Nat)) : Int) B' _ by rw [e4, e5]; exact e3)⟩
        · skip
          have hKU : Keeps (fun b => (b = pb ∨ W0.heap.size ≤ b ∧ B2 b) ∨ b = kb) V0 U := Keeps.both hU.2.keeps hkI2
          have hsU := hKU.size
          have hs20 := hk20.size
          have hs12 := HW2.out.size
          have hs01 := HNJ.out.2.keeps.size
          have hsD : W4.heap.size ≤ W0.heap.size := by have := HP.out; omega
          have hjl : j * (ll + 1) ≤ 60 * 61 := Nat.mul_le_mul (by omega) (by omega)
          have hKU2 : Keeps (fun b => (b = pb ∨ W0.heap.size ≤ b ∧ B2 b) ∨ b = kb) W₂ U := (hk20.mono fun _ h _ => h.elim).trans hKU
          have hK4U : Keeps (fun _ => False) W4 U := HK4.out.trans' hKU2 (fun b hb hl => by have := HP.out; omega)
          have hA := hU.2.at_
          have hSt := hK4U.heap HSb.out
          have hWt := hK4U.heap HWT.out
          have hBb := (hKU2.block _ (by omega) (fun h => by omega)).trans HB2.out
          have hIb := (hKU2.block _ (by omega) (fun h => by omega)).trans HA2.out
          have a0 : U.cell? ⟨kb, 0, none⟩ = some (.int .i64 st) := by simp [World.cell?, hA]
          have s0 : U.cell? ⟨w.heap.size + 1, 0, none⟩ = some (.int .i64 st) := by simp [World.cell?, hSt]
          have w0 : U.cell? ⟨wb, 0, none⟩ = some (.slice (some ⟨g, 0, none⟩) ll lc) := by simp [World.cell?, hWt]
          have b0 : U.cell? ⟨pb + 1, 0, none⟩ = some (.pointer (some ⟨pb, 0, none⟩)) := by simp [World.cell?, hBb]
          obtain ⟨vb, hvb⟩ : ∃ b, b = U.heap.size := ⟨_, rfl⟩
          obtain ⟨U9, hU9⟩ : ∃ U9, U9 = U.alloc (.cells #[.slice pp1 p.length pc1] 32) := ⟨_, rfl⟩
          have hk9 : Keeps (fun _ => False) U U9 := by rw [hU9]; exact (Keeps.refl _ _).alloc _
          have hVb : U9.heap[vb]? = some (.cells #[.slice pp1 p.length pc1] 32 (0, 0)) := by rw [hU9, hvb]; exact heap_alloc_new _ _
          have HVB := Lib.hid hvb
          have HU9 := Lib.hid hU9
          have hT : Calls Try.prog 18 #[.pointer (some ⟨pb, 0, none⟩), .slice (some ⟨vb, 0, none⟩) 1 1] U9 fun e w' => (∃ v, e = .returned v) ∧ TakeN (W0.heap.size + 2) pb (j * (ll + 1) + ll) (fun b => (B3 b ∧ W0.heap.size ≤ b ∧ (B2 b ∨ V0.heap.size ≤ b)) ∧ b < vb) (.slice pp1 p.length pc1) U9 w' := by
            obtain ⟨⟨L, sz, lv, nv, hN⟩, _⟩ := hU
            have h1 := (hN.mono' (S' := fun b => (B3 b ∧ W0.heap.size ≤ b ∧ (B2 b ∨ V0.heap.size ≤ b)) ∧ b < vb) (fun b hb hl _ => ⟨hb, by omega⟩)).keep hk9 (fun _ h => h.elim)
            have hpy : ∀ b, (Value.slice pp1 p.length pc1).ownBlock = some b → ¬ B2 b ∧ W0.heap.size + 1 < b ∧ b < W1.heap.size := fun b hb => HY.out b (by rw [HYE.out]; exact .inl hb)
            have hpr := (HROW.out.keeps hKU2 (fun b hb => ⟨HROW.out.lt hb, fun h => by
              have h1 := hpy b hb
              rcases h with (h | ⟨_, h⟩) | h
              · omega
              · exact h1.1 h
              · omega⟩)).keeps hk9
            refine Take_nb h1 (by omega) (by have := hk9.size; omega) (by omega) hVb ⟨by omega, fun h => by omega⟩ (hpr (fun b hb => ⟨?_, fun h => h⟩)) hplen (fun b hb => ?_)
            · have := hpy b hb; omega
            · have h2 := hpy b hb
              exact ⟨by omega, fun h => by
                rcases h.1.2.2 with h3 | h3
                · exact h2.1 h3
                · omega, by omega⟩
          have hI9 := hk9.heap hIb
          clear hA hSt hWt hBb hIb hvb hU9
          have hq1 : (st != (ll : Int)) = true := by simp [hsl]
          gi_wp2_with fail
          rw [← HU9.out, ← HVB.out]
          refine ⟨trivial, (CallsIn.inRound _ (callsIn_wide.2 hT)).mono ?_⟩
          clear hT b0 a0 s0 w0
          rintro e U10 ⟨⟨v0, rfl⟩, hT⟩
          have hkT : Keeps (fun b => b = pb ∨ W0.heap.size ≤ b) U9 U10 := by
            obtain ⟨_, _, _, _, _, h⟩ := hT
            exact h.mono (fun b hb _ => hb.imp_right (fun h => by have := h.1; omega))
          have hI10 := (hkT.block _ (heap_lt hI9) (fun h => by omega)).trans hI9
          have a0 : U10.cell? ⟨itb + 1, 0, none⟩ = some (.int .i64 (j : Int)) := by simp [World.cell?, hI10]
          have a1 : U10.frozen? ⟨itb + 1, 0, none⟩ = false := by simp [World.frozen?, hI10]
          have hBpb : B2 pb := HNJ.out.2.own pb hpbl hIpb
          have hend := Lib.hid (NJ.took (It := It) (X := fun b => b = pb) (S := fun b => W0.heap.size ≤ b) (v' := (j : Int) + 1) HNJ.out.2 HW2.out (by omega) ((hKU2.mono (S' := fun b => b = pb ∨ W0.heap.size ≤ b) (fun b hb _ => by omega)).trans' hk9 (fun _ h => h.elim)) ((hKU2.mono (S' := fun b => B2 b ∨ Y b) (fun b hb hl => by
              rcases hb with (hb | ⟨_, hb⟩) | hb
              · exact .inl (hb ▸ hBpb)
              · exact .inl hb
              · omega)).trans' hk9 (fun _ h => h.elim)) hI9 hT (fun b hb hl => ⟨hb.1.2.2.imp_right (fun h => by omega), hb.1.2.1⟩) (fun b hb => by rw [HYE.out]; exact .inl hb) (fun b hb => by have := (HY.out b hb).2.1; exact ⟨by omega, by omega⟩) (fun b hb => by show W0.heap.size ≤ b; omega)
              HBl.out hibl hIib (fun h => by omega) (by omega) hpbl hIpb ⟨rfl, fun b h1 h2 _ => by omega⟩)
          clear hI9 hI10 hT hkT
          gi_wp2_with fail
          obtain ⟨B', e1, e2, e3⟩ := hend.out
          have e4 : (((j + 1 : Nat)) : Int) = (j : Int) + 1 := by omega
          have e5 : (j + 1) * (ll + 1) = j * (ll + 1) + ll + 1 := by rw [Nat.add_mul]; omega
          exact ⟨B', e1, e2, (show NJ _ _ _ _ _ _ _ ((j + 1) * (ll + 1)) (((j + 1 : Nat)) : Int) B' _ by rw [e4, e5]; exact e3)⟩
      case round2 =>
        rintro k B3 Y3 vs3 U1 hk3 hBl3 ⟨hNJ3, hks⟩ ⟨q, z, pv3, cp', cl', cc', bs', hL, rfl, hrow, hown, hsz, hYe⟩ hY3 hB3ne hlt3 hkI3
        obtain ⟨pp3, pc3, rfl, hints⟩ := hrow.ints hrow.le'
        have hJ3 := hNJ3.2
        gi_wp2
        obtain ⟨zb, hyb⟩ : ∃ zb, zb = U1.heap.size := ⟨_, rfl⟩
        obtain ⟨U7, hU7⟩ : ∃ U7, U7 = U1.alloc (.cells (four z.k z.n z.t cp' cl' cc') T) := ⟨_, rfl⟩
        have hka : Keeps (fun _ => False) U1 U7 := by rw [hU7]; exact (Keeps.refl _ U1).alloc _
        have hby : U7.heap[zb]? = some (.cells (four z.k z.n z.t cp' cl' cc') T (0, 0)) := by rw [hU7, hyb]; exact heap_alloc_new _ _
        rw [← hU7, ← hyb]
        refine ⟨hka.mono fun _ h _ => h.elim, fun U₂ hk2 hrec3 => ?_⟩
        clear hrec3
        have hU2 : Keeps (fun b => b = V0.heap.size) U1 U₂ := (hka.mono (S' := fun b => b = V0.heap.size) fun _ h _ => h.elim).trans' hk2 (fun b hb _ => hb)
        have hs31 := hJ3.keeps.size
        have hs32 := hU2.size
        have hkN : k < ll := by rw [← HN.out]; exact hk3
        have hs42 : W4.heap.size ≤ W₂.heap.size := HK4.out.size
        have hsD : W4.heap.size ≤ W0.heap.size := by have := HP.out; omega
        have hKV : Keeps (fun b => It b ∨ (b = pb ∨ W0.heap.size ≤ b ∧ B2 b) ∨ b = kb) V0 U₂ := hJ3.keeps.trans' hU2 (fun b hb hl => by omega)
        have hs20 := hk20.size
        have hkbW : W0.heap.size < kb := by omega
        have hK4 : Keeps (fun _ => False) W4 U₂ := (HK4.out.trans hk20).trans' hKV (fun b hb hl => by
          rcases hb with hb | (hb | hb) | hb
          · have := (hIt b hb).1; omega
          · have := HP.out; omega
          · omega
          · omega)
        have hS2 := HS.out.keeps hK4 (fun b hb => hb.elim)
        have hA2 : U₂.heap[kb]? = some (.cells #[.int .i64 (k : Int)] 3 (0, 0)) := (hU2.block _ (heap_lt hJ3.at_) (by omega)).trans hJ3.at_
        have hWt2 : U₂.heap[wb]? = some (.cells #[.slice (some ⟨g, 0, none⟩) ll lc] 40 (0, 0)) := hK4.heap HWT.out
        have hBb2 : U₂.heap[pb + 1]? = some (.cells #[.pointer (some ⟨pb, 0, none⟩)] 42 (0, 0)) := (hKV.block _ (by omega) (fun h => by have := hIlow.out (pb + 1) (Nat.le_refl _); rcases h with h | (h | h) | h; exact this h; omega; omega; omega)).trans (hk20.heap HB2.out)
        have hSt2 : U₂.heap[w.heap.size + 1]? = some (.cells #[.int .i64 st] 3 (0, 0)) := hK4.heap HSb.out
        have hby : U₂.heap[zb]? = some (.cells (four z.k z.n z.t cp' cl' cc') T (0, 0)) := (hk2.block _ (heap_lt hby) (by omega)).trans hby
        have hYl : ∀ b, (Value.slice pp3 q.length pc3).ownBlock = some b ∨ b ∈ bs' → b < U1.heap.size ∧ b ≠ V0.heap.size := fun b hb => by
          have := hY3 b (by rw [hYe]; exact hb)
          omega
        have hrow2' := hrow.keeps hU2 (fun b hb => ⟨(hYl b (.inl hb)).1, (hYl b (.inl hb)).2⟩)
        have hi2 := hints.keeps hU2 (fun b hb e => (hYl b (.inl hb)).2 e)
        have ht2 := (hown.keeps hU2 (fun b hb => ⟨(hYl b (.inr hb)).1, (hYl b (.inr hb)).2⟩)).tv hsz
        have hqlen : q.length ≤ 1000 := by
          have h1 : x.small ∧ eachL x = pre [] x := by
            unfold eachL at hL ⊢
            split at hL
            · rename_i h1; exact ⟨h1, by simp [h1]⟩
            · simp at hL
          have h2 := sub_len q x (pre_sub x _ (h1.2 ▸ List.mem_of_getElem? hL))
          have h3 := HN.out
          rw [h1.2, pre_len] at h3
          omega
        obtain ⟨pv2, cp2, cl2, cc2, bs2, g0, g1, g2, g3, g4, hsz2, hrow2, hown2, _⟩ := hS2.rep.at_ hL
        obtain ⟨pp2, pc2, rfl, hints2⟩ := hrow2.ints hrow2.le'
        have hty := hown2.tv hsz2
        have hrowL := hS2.row
        rw [HN.out] at hrowL
        have c0 : U₂.cell? ⟨g, k * 5, none⟩ = some (.slice pp2 q.length pc2) := (hrowL.cellAt _ (by omega)).trans g0
        have c1 : U₂.cell? ⟨g, k * 5 + 1, none⟩ = some (.string z.k) := (hrowL.cellAt _ (by omega)).trans g1
        have c2 : U₂.cell? ⟨g, k * 5 + 2, none⟩ = some (.int .i64 z.n) := (hrowL.cellAt _ (by omega)).trans g2
        have c3 : U₂.cell? ⟨g, k * 5 + 3, none⟩ = some (.string z.t) := (hrowL.cellAt _ (by omega)).trans g3
        have c4 : U₂.cell? ⟨g, k * 5 + 4, none⟩ = some (.slice cp2 cl2 cc2) := (hrowL.cellAt _ (by omega)).trans g4
        have a0 : U₂.cell? ⟨kb, 0, none⟩ = some (.int .i64 (k : Int)) := by simp [World.cell?, hA2]
        have w0 : U₂.cell? ⟨wb, 0, none⟩ = some (.slice (some ⟨g, 0, none⟩) ll lc) := by simp [World.cell?, hWt2]
        obtain ⟨y0, y1, y2, y3, _⟩ := box4 hby
        have hEP : Hid (∀ W, Keeps (fun _ => False) U₂ W → Calls Try.prog 16 #[.slice pp3 q.length pc3, .slice pp2 q.length pc2] W fun e w' => e = .returned (.bool true) ∧ Keeps (fun _ => False) W w') := Lib.hid fun W hk => by
          have := EqPath_any q q pp3 pp2 q.length q.length pc3 pc2 _ _ W (hi2.keeps hk (fun _ _ h => h)) (hints2.keeps hk (fun _ _ h => h))
          rwa [decide_eq_true rfl] at this
        have hEQ : Hid (∀ W, Keeps (fun _ => False) U₂ W → Calls Try.prog 17 #[tv z.k z.n z.t cp' cl' cc', tv z.k z.n z.t cp2 cl2 cc2] W fun e w' => e = .returned (.bool true) ∧ Keeps (fun _ => False) W w') := Lib.hid fun W hk => by
          have := Eq_any (z.c.nodes + 1) z.k z.k z.n z.n z.t z.t z.c z.c _ _ cp' cp2 cl' cc' cl2 cc2 W (by omega) (ht2.next hk) (hty.next hk)
          rwa [eqB_self] at this
        have ka := fun d os => cell_regrown a0 d os
        have kw := fun d os => cell_regrown w0 d os
        have kc0 := fun d os => cell_regrown c0 d os
        have kc1 := fun d os => cell_regrown c1 d os
        have kc2 := fun d os => cell_regrown c2 d os
        have kc3 := fun d os => cell_regrown c3 d os
        have kc4 := fun d os => cell_regrown c4 d os
        have ky0 := fun d os => cell_regrown y0 d os
        have ky1 := fun d os => cell_regrown y1 d os
        have ky2 := fun d os => cell_regrown y2 d os
        have ky3 := fun d os => cell_regrown y3 d os
        have hj0 : (0 : Int) ≤ (k : Int) := Int.natCast_nonneg _
        have hj1 : (k : Int) < (ll : Int) := by omega
        have hj2 : ¬ (ll : Int) ≤ (k : Int) := by omega
        have hj3 : decide ((ll : Int) ≤ (k : Int)) = false := by simp; omega
        have HA3 := Lib.hid hA2
        have HB3 := Lib.hid hBb2
        have HSt3 := Lib.hid hSt2
        have HNJ3 := Lib.hid hNJ3
        have HU2 := Lib.hid hU2
        have HBl3 := Lib.hid hBl3
        have HY3 := Lib.hid hY3
        have HYE3 := Lib.hid hYe
        have HBN3 := Lib.hid hB3ne
        have HROW3 := Lib.hid hrow2'
        clear hA2 hBb2 hSt2 hJ3 hNJ3 hU2 hBl3 hYe hYl hB3ne hY3 hL hrow hown hints hi2 ht2 hints2 hty hS2 hK4 hrowL hWt2 hby g0 g1 g2 g3 g4 hrow2 hown2 hk2 hka hyb hU7 c0 c1 c2 c3 c4 a0 w0 y0 y1 y2 y3 hrow2' hKV
        gi_wp2_with fail
        refine region_round (by kernel_rfl) (by kernel_rfl) (by kernel_rfl) ?_
        repeat (refine wpQuietIn_step (fun _ _ _ _ => trivial) (fun K hK => ?_); go_simp; first | (refine hK _ ?_; clear hK K) | (apply Exists.intro; refine ⟨fun _ => ?_, hK _ ?_⟩; (first | exact quiet_call hEP.out | exact quiet_call hEQ.out | exact ⟨trivial, quiet_call hEP.out⟩ | exact ⟨trivial, quiet_call hEQ.out⟩ | exact ⟨by simp, quiet_call hEP.out⟩ | exact ⟨by simp, quiet_call hEQ.out⟩); clear hK K))
        refine wpQuietIn_nil ?_
        intro U8 hk8
        clear ka kw kc0 kc1 kc2 kc3 kc4 ky0 ky1 ky2 ky3 hEP hEQ hj3
        have hB8 := hk8.heap HB3.out
        have b0 : U8.cell? ⟨pb + 1, 0, none⟩ = some (.pointer (some ⟨pb, 0, none⟩)) := by simp [World.cell?, hB8]
        obtain ⟨vb, hvb⟩ : ∃ b, b = U8.heap.size := ⟨_, rfl⟩
        obtain ⟨U9, hU9⟩ : ∃ U9, U9 = U8.alloc (.cells #[.slice pp3 q.length pc3] 32) := ⟨_, rfl⟩
        have hk9 : Keeps (fun _ => False) U8 U9 := by rw [hU9]; exact (Keeps.refl _ _).alloc _
        have hVb : U9.heap[vb]? = some (.cells #[.slice pp3 q.length pc3] 32 (0, 0)) := by rw [hU9, hvb]; exact heap_alloc_new _ _
        have hk29 := hk8.trans hk9
        have HVB := Lib.hid hvb
        have HU9 := Lib.hid hU9
        have hs8 := hk8.size
        have hjl : j * (ll + 1) ≤ 60 * 61 := Nat.mul_le_mul (by omega) (by omega)
        have hT : Calls Try.prog 18 #[.pointer (some ⟨pb, 0, none⟩), .slice (some ⟨vb, 0, none⟩) 1 1] U9 fun e w' => (∃ v, e = .returned v) ∧ TakeN (W0.heap.size + 2) pb (j * (ll + 1) + k) (fun b => B3 b ∧ W0.heap.size ≤ b ∧ (B2 b ∨ V0.heap.size ≤ b)) (.slice pp3 q.length pc3) U9 w' := by
          obtain ⟨⟨L, sz, lv, nv, hN⟩, _⟩ := HNJ3.out
          have h1 := (hN.keep HU2.out (fun b hb => ⟨by omega, fun h => HBN3.out b h.1 hb⟩)).keep hk29 (fun _ h => h.elim)
          refine Take_nb h1 (by omega) (by have := hk9.size; omega) (by omega) hVb ⟨by omega, fun h => by have := HBl3.out vb h.1; omega⟩ (HROW3.out.keeps hk29 (fun b hb => ⟨HROW3.out.lt hb, fun h => h⟩)) hqlen (fun b hb => ?_)
          have := HY3.out b (by rw [HYE3.out]; exact .inl hb)
          exact ⟨by omega, fun h => this.1 h.1, by omega⟩
        clear hvb hU9 hk8 hk9 hB8
        gi_wp2_with fail
        rw [← HU9.out, ← HVB.out]
        refine ⟨trivial, (CallsIn.inRound _ (callsIn_wide.2 hT)).mono ?_⟩
        clear hT b0
        rintro e U10 ⟨⟨v0, rfl⟩, hT⟩
        have hkT : Keeps (fun b => b = pb ∨ (W0.heap.size + 2 ≤ b ∧ ((B3 b ∧ W0.heap.size ≤ b ∧ (B2 b ∨ V0.heap.size ≤ b)) ∨ (Value.slice pp3 q.length pc3).ownBlock = some b))) U9 U10 := by obtain ⟨_, _, _, _, _, h⟩ := hT; exact h
        have hA9 := hk29.heap HA3.out
        have hYk : (Value.slice pp3 q.length pc3).ownBlock ≠ some kb := fun h => by have := (HY3.out kb (by rw [HYE3.out]; exact .inl h)).2.1; omega
        have hB2k : ¬ B2 kb := fun h => by have := HBl.out kb h; omega
        have hA10 : U10.heap[kb]? = some (.cells #[.int .i64 (k : Int)] 3 (0, 0)) := (hkT.block _ (heap_lt hA9) (fun h => by
          rcases h with h | ⟨_, ⟨_, _, h | h⟩ | h⟩
          · omega
          · exact hB2k h
          · omega
          · exact hYk h)).trans hA9
        have hSt9 := hk29.heap HSt3.out
        have hSt10 : U10.heap[w.heap.size + 1]? = some (.cells #[.int .i64 st] 3 (0, 0)) := (hkT.block _ (heap_lt hSt9) (fun h => by
          rcases h with h | h
          · omega
          · omega)).trans hSt9
        have a0 : U10.cell? ⟨kb, 0, none⟩ = some (.int .i64 (k : Int)) := by simp [World.cell?, hA10]
        have a1 : U10.frozen? ⟨kb, 0, none⟩ = false := by simp [World.frozen?, hA10]
        have s0 : U10.cell? ⟨w.heap.size + 1, 0, none⟩ = some (.int .i64 st) := by simp [World.cell?, hSt10]
        have hend : Hid (∃ B', (∀ b, B' b → (B3 b ∨ Y3 b ∨ U1.heap.size ≤ b) ∧ b < (U10.setCell ⟨kb, 0, none⟩ (.int .i64 ((k : Int) + 1))).heap.size) ∧ Keeps (fun b => B3 b ∨ Y3 b) U₂ (U10.setCell ⟨kb, 0, none⟩ (.int .i64 ((k : Int) + 1))) ∧
            NJ It (fun b => b = pb ∨ W0.heap.size ≤ b ∧ B2 b) (fun b => W0.heap.size ≤ b ∧ (B2 b ∨ V0.heap.size ≤ b)) V0 (W0.heap.size + 2) pb kb (j * (ll + 1) + k + 1) ((k : Int) + 1) B' (U10.setCell ⟨kb, 0, none⟩ (.int .i64 ((k : Int) + 1)))) := Lib.hid (
          NJ.took HNJ3.out.2 HU2.out (Nat.le_refl _) (hk29.mono fun _ h _ => h.elim) (hk29.mono fun _ h _ => h.elim) hA9 hT (fun b hb _ => ⟨.inl hb.1, hb.2⟩) (fun b hb => by rw [HYE3.out]; exact .inl hb) (fun b hb => by have := (HY3.out b hb).2.1; exact ⟨by omega, by omega, .inr (by omega)⟩) (fun b hb => ⟨by omega, .inr (by omega)⟩)
            HBl3.out hkbV hIkb (fun h => by rcases h.2 with h | h; exact hB2k h; omega) (by omega) hpbV hIpb ⟨.inl rfl, fun b hbv h1 h2 => .inr ⟨by omega, h2.2.elim id (fun h => absurd hbv (by omega))⟩⟩)
        have hkq : (k : Int) ≤ 60 := by omega
        clear hA9 hA10 hSt9 hSt10 hT hkT
        by_cases hsp : (k : Int) + 1 = st
        · have hsq : ((k : Int) + 1 == st) = true := by simp [hsp]
          gi_wp2_with fail
          obtain ⟨B', e1, e2, e3⟩ := hend.out
          rw [hsp] at e1 e2 e3
          exact ⟨B', e1, e2, rfl, by obtain ⟨⟨L, sz, lv, nv, hN⟩, hO⟩ := e3; exact ⟨⟨L, sz, lv, nv, hN.more (by omega)⟩, hO⟩⟩
        · have hsq : ((k : Int) + 1 == st) = false := by simp [hsp]
          gi_wp2_with fail
          obtain ⟨B', e1, e2, e3⟩ := hend.out
          have e4 : (((k + 1 : Nat)) : Int) = (k : Int) + 1 := by omega
          exact ⟨B', e1, e2, (show NJ _ _ _ _ _ _ _ (j * (ll + 1) + (k + 1)) (((k + 1 : Nat)) : Int) B' _ by rw [e4]; exact e3), .inr (show (((k + 1 : Nat)) : Int) ≠ st by omega)⟩
end Go.Proofs.Ytnphhibfiklfjaa
