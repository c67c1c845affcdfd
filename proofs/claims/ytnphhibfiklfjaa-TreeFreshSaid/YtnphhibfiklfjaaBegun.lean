/-
  espalierlaw4.begun: its walk.
-/
import Derived.Test.YtnphhibfiklfjaaBegunR

import Derived.Deep.RegionHeld3

set_option linter.unusedVariables false

set_option linter.unusedSimpArgs false

namespace Go.Proofs.Ytnphhibfiklfjaa

open Go.RowKit

attribute [local go_sem] Oper.semAt_some

set_option maxRecDepth 100000 in
set_option maxHeartbeats 6400000 in
theorem begun_any (w : World) : Calls Try.prog 8 #[] w fun e w' => e = .returned (.bool true) ∧ Keeps (fun _ => False) w w' := by
  refine calls_marks Try.func8 rfl ?_
  simp only [Try.ntmps8, List.size_toArray, List.length_cons, List.length_nil, Nat.reduceAdd, Nat.reduceSub, Array.replicate_succ, Array.replicate_zero, List.push_toArray, List.append_toArray, List.nil_append, List.cons_append]
  go_wp2_with fail
  refine (leaf_any _ _).mono ?_
  rintro e W1 ⟨rfl, hk1⟩
  go_wp2_with fail
  refine (leaf_any _ _).mono ?_
  rintro e W2 ⟨rfl, hk2⟩
  obtain ⟨wa, hwa⟩ : ∃ wa, wa = W2.alloc (.cells (four kgh 0 e0 none 0 0) T) := ⟨_, rfl⟩
  obtain ⟨wb, hwb⟩ : ∃ wb, wb = wa.alloc (.cells #[.string kcd, .int .i64 0, .string e0, .slice none 0 0, .string kef, .int .i64 0, .string e0, .slice (some ⟨W2.heap.size, 0, none⟩) 1 1] T) := ⟨_, rfl⟩
  obtain ⟨wc, hwc⟩ : ∃ wc, wc = wb.alloc (.cells (four kab 0 e0 (some ⟨W2.heap.size + 1, 0, none⟩) 2 2) T) := ⟨_, rfl⟩
  have hsa : wa.heap.size = W2.heap.size + 1 := by rw [hwa]; simp
  have hsb : wb.heap.size = W2.heap.size + 2 := by rw [hwb]; simp [hsa]
  have hsc : wc.heap.size = W2.heap.size + 3 := by rw [hwc]; simp [hsb]
  have hka : Keeps (fun _ => False) W2 wa := by rw [hwa]; exact (Keeps.refl _ W2).alloc _
  have hkb : Keeps (fun _ => False) wa wb := by rw [hwb]; exact (Keeps.refl _ wa).alloc _
  have hkc : Keeps (fun _ => False) wb wc := by rw [hwc]; exact (Keeps.refl _ wb).alloc _
  have h0 : wc.heap[W2.heap.size]? = some (.cells (four kgh 0 e0 none 0 0) T (0, 0)) :=
    (hkc.block _ (by omega) (fun h => h)).trans ((hkb.block _ (by omega) (fun h => h)).trans (by rw [hwa]; exact heap_alloc_new _ _))
  have h1 : wc.heap[W2.heap.size + 1]? = some (.cells #[.string kcd, .int .i64 0, .string e0, .slice none 0 0, .string kef, .int .i64 0, .string e0, .slice (some ⟨W2.heap.size, 0, none⟩) 1 1] T (0, 0)) :=
    (hkc.block _ (by omega) (fun h => h)).trans (by rw [hwb, ← hsa]; exact heap_alloc_new _ _)
  have h2 : wc.heap[W2.heap.size + 1 + 1]? = some (.cells (four kab 0 e0 (some ⟨W2.heap.size + 1, 0, none⟩) 2 2) T (0, 0)) := by rw [hwc, show W2.heap.size + 1 + 1 = wb.heap.size by omega]; exact heap_alloc_new _ _
  have hn := nodeB h0 h1 h2
  have hsw : w.heap.size + 1 ≤ W2.heap.size := by have := hk1.size; have := hk2.size; simp at *; omega
  have hres : wc.heap[w.heap.size]? = some (.cells #[.bool false] 4 (0, 0)) :=
    (hkc.block _ (by omega) (fun h => h)).trans ((hkb.block _ (by omega) (fun h => h)).trans ((hka.block _ (by omega) (fun h => h)).trans ((hk2.block _ (by have := hk1.size; simp at this; omega) (fun h => h)).trans ((hk1.block _ (by simp) (fun h => h)).trans (heap_alloc_new _ _)))))
  have hK : Keeps (fun _ => False) w wc := ((((((Keeps.refl _ w).alloc _).trans hk1).trans hk2).trans hka).trans hkb).trans hkc
  have hBB : BB w wc W2.heap.size := ⟨hn, hres, hK⟩
  have hz := Size_any kab 0 e0 fcd _ 2 2 _ wc hn.tv
  rw [sizeB] at hz
  have HA := Lib.hid hwa
  have HB := Lib.hid hwb
  have HC := Lib.hid hwc
  clear hwa hwb hwc hka hkb hkc h0 h1 hk1 hk2
  go_wp2_with fail
  rw [← HA.out, ← HB.out, ← HC.out]
  clear HA HB HC
  clear hsa hsb
  refine hz.mono ?_
  clear hz
  rintro e W ⟨rfl, hk⟩
  have hB := hBB.next hk
  obtain ⟨B, hBe⟩ : ∃ B, B = W2.heap.size := ⟨_, rfl⟩
  have hsB : w.heap.size + 1 ≤ B := by omega
  rw [← hBe] at hB ⊢
  clear hn h2 hK hk hres hBB hBe hsw hsc
  -- At, [1, 0]
  obtain ⟨e0', e1, e2, e3, e4, e5⟩ := hB.cells
  have hka : Keeps (fun _ => False) W (W.alloc (.cells #[.int .i64 1, .int .i64 0] 3)) := (Keeps.refl _ W).alloc _
  have hz := At_any ndB [1, 0] _ 2 2 _ _ _ 2 2 _ (hB.next hka).n.tv (ints_box W [1, 0] (by decide))
  rw [atB1] at hz
  go_wp2_with fail
  refine (hz.mono fun _ _ h => TreeRes.out h).mono ?_
  clear hz
  rintro e W3 ⟨cp5, cl5, cc5, A5, rfl, ht5, hk3⟩
  have hB3 := hB.next (hka.trans hk3)
  clear e0' e1 e2 e3 e4 e5 hka hk3 hB
  -- At, [2]
  have hkb : Keeps (fun _ => False) W3 (W3.alloc (.cells (four kgh 0 e0 cp5 cl5 cc5) T)) := (Keeps.refl _ W3).alloc _
  obtain ⟨W4, hW4⟩ : ∃ W4, W4 = W3.alloc (.cells (four kgh 0 e0 cp5 cl5 cc5) T) := ⟨_, rfl⟩
  have hn5 : NodeAt W4 A5 W3.heap.size 0 kgh 0 e0 .nil cp5 cl5 cc5 := by rw [hW4]; exact ht5.boxed _
  rw [← hW4] at hkb
  have hB4 := hB3.next hkb
  have hka : Keeps (fun _ => False) W4 (W4.alloc (.cells #[.int .i64 2] 3)) := (Keeps.refl _ W4).alloc _
  have hz := At_any ndB [2] _ 2 2 _ _ _ 1 1 _ (hB4.next hka).n.tv (ints_box W4 [2] (by decide))
  rw [atB2] at hz
  obtain ⟨e0', e1, e2, e3, e4, e5⟩ := hB4.cells
  obtain ⟨b5, hb5⟩ : ∃ b5, b5 = W3.heap.size := ⟨_, rfl⟩
  rw [← hb5] at hn5
  have hb5w : w.heap.size < b5 := by rw [hb5]; exact heap_lt hB3.res
  have hs4 : W4.heap.size = b5 + 1 := by rw [hW4, hb5]; simp
  rw [hs4] at hz
  have HW4 := Lib.hid hW4
  have HB5 := Lib.hid hb5
  rw [hW4] at e0' e1 e2 e3
  clear hW4 hb5 hB3
  go_wp2_with fail
  rw [← HW4.out]
  rw [← HB5.out]
  refine (hz.mono fun _ _ h => TreeRes.out h).mono ?_
  clear hz HB5 HW4
  rintro e W5 ⟨cp6, cl6, cc6, A6, rfl, ht6, hk5⟩
  have hk5 := hka.trans hk5
  have hB5 := hB4.next hk5
  have hn5 := hn5.nextT hk5
  clear e0' e1 e2 e3 e4 e5 hka hk5 hB4 hkb
  -- Put
  obtain ⟨W6, hW6⟩ : ∃ W6, W6 = W5.alloc (.cells (four e0 0 e0 cp6 cl6 cc6) T) := ⟨_, rfl⟩
  have hkb : Keeps (fun _ => False) W5 W6 := by rw [hW6]; exact (Keeps.refl _ W5).alloc _
  have HW6 := Lib.hid hW6
  clear hW6
  go_wp2_with fail
  rw [← HW6.out]
  clear HW6
  obtain ⟨s1, _, _, _, s5, _⟩ := szB
  refine (leaf_any _ _).mono ?_
  rintro e W7 ⟨rfl, hk7⟩
  go_wp2_with fail
  refine (leaf_any _ _).mono ?_
  rintro e W8 ⟨rfl, hk8⟩
  have hk8 := (hkb.trans hk7).trans hk8
  have hB8 := hB5.next hk8
  have hn5 := hn5.nextT hk8
  have hz := Put_any (lf kab) (lf kxy) [] none none 0 0 0 0 _ _ _ none 0 0 W8 (tvLf W8 kab s1) (Ints.nil W8 (fun _ => False)) (tvLf W8 kxy s5)
  rw [putB] at hz
  clear hk7 hk8 hB5 hkb
  go_wp2_with fail
  refine (hz.mono fun _ _ h => TreeRes.out h).mono ?_
  clear hz
  rintro e W9 ⟨cp9, cl9, cc9, A9, rfl, ht9, hk9⟩
  have hB9 := hB8.next hk9
  have hn5 := hn5.nextT hk9
  clear hB8 hk9
  -- Kinds
  obtain ⟨W10, hW10⟩ : ∃ W10, W10 = W9.alloc (.cells (four kxy 0 e0 cp9 cl9 cc9) T) := ⟨_, rfl⟩
  have hkb : Keeps (fun _ => False) W9 W10 := by rw [hW10]; exact (Keeps.refl _ W9).alloc _
  obtain ⟨b9, hb9⟩ : ∃ b9, b9 = W9.heap.size := ⟨_, rfl⟩
  have hn9 : NodeAt W10 A9 b9 0 kxy 0 e0 .nil cp9 cl9 cc9 := by rw [hW10, hb9]; exact ht9.boxed _
  have hB10 := hB9.next hkb
  have hb9w : w.heap.size < b9 := by rw [hb9]; exact heap_lt hB9.res
  have hn5 := hn5.nextT hkb
  have hz := Kinds_any ndB _ 2 2 _ W10 hB10.n.tv
  obtain ⟨e0', e1, e2, e3, e4, e5⟩ := hB10.cells
  have HW := Lib.hid hW10
  have HB := Lib.hid hb9
  rw [hW10] at e0' e1 e2 e3
  clear hW10 hb9 hB9 hkb e4 e5
  go_wp2_with fail
  rw [← HW.out, ← HB.out]
  refine hz.mono ?_
  clear hz HW HB e0' e1 e2 e3
  rintro e W11 ⟨vp, vl, vc, rfl, hrow, hk11⟩
  have hvl : vl = 4 := (row_len hrow).trans kindsB
  subst hvl
  have hB11 := hB10.next hk11
  have hn5 := hn5.nextT hk11
  have hn9 := hn9.nextT hk11
  clear hB10 hk11 hrow
  -- Each
  have hz := Each_any ndB _ 2 2 _ W11 hB11.n.tv
  obtain ⟨e0', e1, e2, e3, e4, e5⟩ := hB11.cells
  clear e4 e5
  go_wp2_with fail
  refine hz.mono ?_
  clear hz e0' e1 e2 e3
  rintro e W12 ⟨gf, lb, It, rfl, heg, hIt, hk12, hit⟩
  have hB12 := hB11.next hk12
  have hn5 := hn5.nextT hk12
  have hn9 := hn9.nextT hk12
  clear hB11 hk12
  have hfe : ∀ W, (binOp .eql 29 (.func (.func gf) #[] lb) .nilFunc).run Try.prog W = .ok (.bool false) W := fun _ => rfl
  have HE := Lib.hid heg
  have HI := Lib.hid hit
  clear heg hit
  go_wp2_with fail
  obtain ⟨W13, hW13⟩ : ∃ W13, W13 = W12.alloc (.cells #[.int .i64 0] 3) := ⟨_, rfl⟩
  have hk13 : Keeps (fun _ => False) W12 W13 := by rw [hW13]; exact (Keeps.refl _ W12).alloc _
  have hs13 : W13.heap.size = W12.heap.size + 1 := by rw [hW13]; simp
  have hM : W13.heap[W12.heap.size]? = some (.cells #[.int .i64 ((0 : Nat) : Int)] 3 (0, 0)) := by rw [hW13]; exact heap_alloc_new _ _
  rw [← hW13]
  clear hW13
  have hItl : ∀ b, It b → b < W12.heap.size := fun b hb => (hIt b hb).2
  refine (wpIn_wide (n := 1 + 2)).1 (range_law 1 (gf := gf) (lb := lb) (by rfl) HE.out HI.out (hk13.mono fun _ h _ => h.elim) hItl (fun j vs Y W h => by obtain ⟨p, x, pv, cp, cl, cc, bs, _, rfl, _⟩ := h; rfl)
    (BJ It W13 W12.heap.size) (fun _ _ _ => False) (BJ.stab (by omega) (fun h => by have := hItl _ h; omega)) (fun _ _ _ _ h _ => h) (fun b => b < W13.heap.size ∧ ¬ It b) (fun b hb => hb) ⟨fun b h1 h2 => ⟨h1, h2⟩, Keeps.refl _ _, hM⟩ ?round ?done ?stop)
  case stop => exact fun _ _ _ h => h.elim
  case round =>
    clear hB12 hn5 hn9 HE HI hk13
    rintro j B2 Y vs W hj hBl hJ ⟨p, x, pv, cp, cl, cc, bs, hL, rfl, hrow, hown, hsz, hYe⟩ hY hBD hlt
    have hpl : p.length ≤ 9223372036854775807 := by
      rw [eachB] at hL
      have hj4 : j < 4 := by rw [eachB] at hj; simpa using hj
      rcases (show j = 0 ∨ j = 1 ∨ j = 2 ∨ j = 3 by omega) with rfl | rfl | rfl | rfl <;> (simp at hL; obtain ⟨rfl, _⟩ := hL; simp)
    obtain ⟨pp, pc, rfl, hints⟩ := hrow.ints hpl
    gi_wp2
    have hka : Keeps (fun _ => False) W (W.alloc (.cells (four x.k x.n x.t cp cl cc) T)) := (Keeps.refl _ W).alloc _
    refine ⟨hka.mono fun _ h _ => h.elim, fun W₂ hk2 => ?_⟩
    have hMW := heap_lt hJ.2.2
    have hMl : W12.heap.size < W13.heap.size := by omega
    have hMI : ¬ It W12.heap.size := fun h => by have := hItl _ h; omega
    have hnext := fun Wn (hkn : Keeps (fun _ => False) W₂ Wn) => BJ.next (Y := Y) (l := W13.heap.size + 1) hMl hMI (by omega) hJ hBl hka hk2 hkn
    have hm2 : W₂.heap[W12.heap.size]? = some (.cells #[.int .i64 (j : Int)] 3 (0, 0)) := (hk2.block _ (by simp; omega) (by omega)).trans ((hka.block _ hMW (fun h => h)).trans hJ.2.2)
    have m1 : W₂.frozen? ⟨W12.heap.size, 0, none⟩ = false := by simp [World.frozen?, hm2]
    have hbx : W₂.heap[W.heap.size]? = some (.cells (four x.k x.n x.t cp cl cc) T (0, 0)) := (hk2.block _ (by simp) (by omega)).trans (heap_alloc_new W _)
    have b0 : W₂.cell? ⟨W.heap.size, 0, none⟩ = some (.string x.k) := by simp [World.cell?, hbx]
    have hi2 := (hints.keeps hka (fun _ _ h => h)).keeps hk2 (fun b hb e => by have := hY b (by rw [hYe]; exact .inl hb); omega)
    have HN := Lib.hid hnext
    rw [eachB] at hL
    have hj4 : j < 4 := by rw [eachB] at hj; simpa using hj
    clear hnext hJ hBl hrow hown hY hBD hYe hka hk2 hints hj hMl hMI
    rcases (show j = 0 ∨ j = 1 ∨ j = 2 ∨ j = 3 by omega) with rfl | rfl | rfl | rfl
    · simp at hL
      obtain ⟨rfl, rfl⟩ := hL
      have m0 : W₂.cell? ⟨W12.heap.size, 0, none⟩ = some (.int .i64 0) := by simp [World.cell?, hm2]
      gi_wp2
      refine ⟨trivial, ?_⟩
      gi_wp2
      exact HN.out _ (Keeps.refl _ _)
    · simp at hL
      obtain ⟨rfl, rfl⟩ := hL
      have m0 : W₂.cell? ⟨W12.heap.size, 0, none⟩ = some (.int .i64 1) := by simp [World.cell?, hm2]
      gi_wp2
      refine ⟨trivial, ?_⟩
      gi_wp2
      exact HN.out _ (Keeps.refl _ _)
    · simp at hL
      obtain ⟨rfl, rfl⟩ := hL
      have m0 : W₂.cell? ⟨W12.heap.size, 0, none⟩ = some (.int .i64 2) := by simp [World.cell?, hm2]
      have hkb : Keeps (fun _ => False) W₂ (W₂.alloc (.cells #[.int .i64 1] 3)) := (Keeps.refl _ W₂).alloc _
      have hq := EqPath_any [1] [1] pp _ 1 1 pc 1 _ _ _ (hi2.keeps hkb (fun _ _ h => h)) (ints_box W₂ [1] (by decide))
      have hM2 := heap_lt hm2
      have hX2 := heap_lt hbx
      gi_wp2_with ((try refine ⟨trivial, ?_⟩); gi_at_call 16; refine (CallsIn.inRound _ (callsIn_wide.2 hq)).mono ?_; clear hq; rintro e Wn ⟨rfl, hkn⟩; have hkn := hkb.trans hkn; have n0 := (hkn.cell (p := ⟨W12.heap.size, 0, none⟩) hM2 (fun h => h)).trans m0; have n1 := (hkn.frozen (p := ⟨W12.heap.size, 0, none⟩) hM2 (fun h => h)).trans m1; have n2 := (hkn.cell (p := ⟨W.heap.size, 0, none⟩) hX2 (fun h => h)).trans b0)
      exact HN.out _ hkn
    · simp at hL
      obtain ⟨rfl, rfl⟩ := hL
      have m0 : W₂.cell? ⟨W12.heap.size, 0, none⟩ = some (.int .i64 3) := by simp [World.cell?, hm2]
      gi_wp2
      refine ⟨trivial, ?_⟩
      gi_wp2
      exact HN.out _ (Keeps.refl _ _)
  case done =>
    rintro B' W ⟨h1, h2, h3⟩ hD hkI hBD
    have hkW : Keeps (fun _ => False) W12 W := hk13.trans' (Keeps.both h2 hkI) (fun b hb hl => by omega)
    have hB14s : w.heap.size < W13.heap.size := by have := heap_lt hB12.res; omega
    have hB14 := hB12.next hkW
    have hn5 := hn5.nextT hkW
    have hn9 := hn9.nextT hkW
    have hmet : W.cell? ⟨W12.heap.size, 0, none⟩ = some (.int .i64 4) := by
      rw [show (eachL ndB).length = 4 by rw [eachB]; rfl] at h3
      simp [World.cell?, h3]
    have hDl := heap_lt hD
    have HW := Lib.hid hkW
    clear h1 h2 h3 hkI hBD hkW HE HI hIt hItl hM hk13 hs13
    go_wp2_with fail
    have hF : Hid (∀ W', Keeps (fun _ => False) W W' → W'.cell? ⟨b5, 0, none⟩ = some (.string kgh) ∧ W'.cell? ⟨b5, 1, none⟩ = some (.int .i64 0) ∧ W'.cell? ⟨b5, 2, none⟩ = some (.string e0) ∧ W'.cell? ⟨b5, 3, none⟩ = some (.slice cp5 cl5 cc5) ∧ W'.cell? ⟨b9, 0, none⟩ = some (.string kxy) ∧ W'.cell? ⟨b9, 1, none⟩ = some (.int .i64 0) ∧ W'.cell? ⟨b9, 2, none⟩ = some (.string e0) ∧ W'.cell? ⟨b9, 3, none⟩ = some (.slice cp9 cl9 cc9) ∧ W'.cell? ⟨B + 1 + 1, 0, none⟩ = some (.string kab) ∧ W'.cell? ⟨B + 1 + 1, 1, none⟩ = some (.int .i64 0) ∧ W'.cell? ⟨B + 1 + 1, 2, none⟩ = some (.string e0) ∧ W'.cell? ⟨B + 1 + 1, 3, none⟩ = some (.slice (some ⟨B + 1, 0, none⟩) 2 2) ∧ W'.cell? ⟨w.heap.size, 0, none⟩ = some (.bool false) ∧ W'.frozen? ⟨w.heap.size, 0, none⟩ = false) := Lib.hid fun W' hk => by
      have a := hn5.nextT hk
      have b := hn9.nextT hk
      obtain ⟨c0, c1, c2, c3, c4, c5⟩ := (hB14.next hk).cells
      exact ⟨a.c0, a.c1, a.c2, a.c3, b.c0, b.c1, b.c2, b.c3, c0, c1, c2, c3, c4, c5⟩
    have hFs : Hid (∀ W', Keeps (fun _ => False) W W' → (W'.setCell ⟨w.heap.size, 0, none⟩ (.bool true)).cell? ⟨b5, 0, none⟩ = some (.string kgh) ∧ (W'.setCell ⟨w.heap.size, 0, none⟩ (.bool true)).cell? ⟨b5, 1, none⟩ = some (.int .i64 0) ∧ (W'.setCell ⟨w.heap.size, 0, none⟩ (.bool true)).cell? ⟨b5, 2, none⟩ = some (.string e0) ∧ (W'.setCell ⟨w.heap.size, 0, none⟩ (.bool true)).cell? ⟨b5, 3, none⟩ = some (.slice cp5 cl5 cc5) ∧ (W'.setCell ⟨w.heap.size, 0, none⟩ (.bool true)).cell? ⟨b9, 0, none⟩ = some (.string kxy) ∧ (W'.setCell ⟨w.heap.size, 0, none⟩ (.bool true)).cell? ⟨b9, 1, none⟩ = some (.int .i64 0) ∧ (W'.setCell ⟨w.heap.size, 0, none⟩ (.bool true)).cell? ⟨b9, 2, none⟩ = some (.string e0) ∧ (W'.setCell ⟨w.heap.size, 0, none⟩ (.bool true)).cell? ⟨b9, 3, none⟩ = some (.slice cp9 cl9 cc9) ∧ (W'.setCell ⟨w.heap.size, 0, none⟩ (.bool true)).cell? ⟨B + 1 + 1, 0, none⟩ = some (.string kab) ∧ (W'.setCell ⟨w.heap.size, 0, none⟩ (.bool true)).cell? ⟨B + 1 + 1, 1, none⟩ = some (.int .i64 0) ∧ (W'.setCell ⟨w.heap.size, 0, none⟩ (.bool true)).cell? ⟨B + 1 + 1, 2, none⟩ = some (.string e0) ∧ (W'.setCell ⟨w.heap.size, 0, none⟩ (.bool true)).cell? ⟨B + 1 + 1, 3, none⟩ = some (.slice (some ⟨B + 1, 0, none⟩) 2 2)) := Lib.hid fun W' hk => by
      have n5 : b5 ≠ w.heap.size := by omega
      have n9 : b9 ≠ w.heap.size := by omega
      have nB : B + 1 + 1 ≠ w.heap.size := by omega
      obtain ⟨f01, f02, f03, f04, f05, f06, f07, f08, f09, f10, f11, f12, f13, f14⟩ := hF.out _ hk
      have hc : ∀ (b i : Nat) (v : Value), b ≠ w.heap.size → W'.cell? ⟨b, i, none⟩ = some v → (W'.setCell ⟨w.heap.size, 0, none⟩ (.bool true)).cell? ⟨b, i, none⟩ = some v := fun b i v hb hv => by
        rw [← hv]
        exact World.cell?_of_block (w := W') (Below.heap_setCell _ _ _ _ hb)
      exact ⟨hc _ _ _ n5 f01, hc _ _ _ n5 f02, hc _ _ _ n5 f03, hc _ _ _ n5 f04, hc _ _ _ n9 f05, hc _ _ _ n9 f06, hc _ _ _ n9 f07, hc _ _ _ n9 f08, hc _ _ _ nB f09, hc _ _ _ nB f10, hc _ _ _ nB f11, hc _ _ _ nB f12⟩
    have hEq5 : Hid (∀ W', Keeps (fun _ => False) W W' → Calls Try.prog 17 #[tv kgh 0 e0 cp5 cl5 cc5, tv kgh 0 e0 none 0 0] W' fun e w' => e = .returned (.bool true) ∧ Keeps (fun _ => False) W' w') := Lib.hid fun W' hk => by
      have := Eq_any 1 kgh kgh 0 0 e0 e0 .nil .nil _ _ cp5 none cl5 cc5 0 0 W' (by decide) (hn5.nextT hk).tv (tvLf W' kgh szB.2.2.2.1)
      rwa [eqB_self] at this
    have hEq9 : Hid (∀ W', Keeps (fun _ => False) W W' → Calls Try.prog 17 #[tv kxy 0 e0 cp9 cl9 cc9, tv kxy 0 e0 none 0 0] W' fun e w' => e = .returned (.bool true) ∧ Keeps (fun _ => False) W' w') := Lib.hid fun W' hk => by
      have := Eq_any 1 kxy kxy 0 0 e0 e0 .nil .nil _ _ cp9 none cl9 cc9 0 0 W' (by decide) (hn9.nextT hk).tv (tvLf W' kxy szB.2.2.2.2.1)
      rwa [eqB_self] at this
    have hMay : Hid (∀ W', Keeps (fun _ => False) W W' → Calls Try.prog 25 #[tv kab 0 e0 (some ⟨B + 1, 0, none⟩) 2 2] W' fun e w' => e = .returned (.int .i64 0) ∧ Keeps (fun _ => False) W' w') := Lib.hid fun W' hk => by
      have := May_any ndB _ 2 2 _ W' (hB14.next hk).n.tv
      rwa [mayB] at this
    have hMay2 : Hid (∀ W', Calls Try.prog 25 #[tv nab 0 e0 none 0 0] W' fun e w' => e = .returned (.int .i64 10) ∧ Keeps (fun _ => False) W' w') := Lib.hid fun W' => by
      have := May_any (lf nab) none 0 0 _ W' (tvLf W' nab szB.2.2.2.2.2)
      rwa [mayL] at this
    have hSame : Hid (∀ W', Keeps (fun _ => False) W W' → Calls Try.prog 12 #[tv kab 0 e0 (some ⟨B + 1, 0, none⟩) 2 2, tv kab 0 e0 (some ⟨B + 1, 0, none⟩) 2 2] W' fun e w' => e = .returned (.bool true) ∧ Keeps (fun _ => False) W' w') := Lib.hid fun W' hk => by
      have := Same_any kab kab 0 0 e0 e0 fcd fcd _ _ 2 2 2 2 _ _ W' (hB14.next hk).n.tv (hB14.next hk).n.tv
      rw [eqB_self, show big kab e0 fcd = !decide ndB.small from big_small ndB] at this
      simpa [smallB] using this
    have hk : Keeps (fun _ => False) W W.drew := (Keeps.refl _ W).drew
    obtain ⟨f01, f02, f03, f04, f05, f06, f07, f08, f09, f10, f11, f12, f13, f14⟩ := hF.out _ (Keeps.refl _ W)
    have HB14 := Lib.hid hB14
    clear hn5 hn9 hB14 hmet hB12
    refine wp_mono (Q := Exit.then (fun a' W' => a'.defers = [{ target := .collected W13.heap.size, args := #[] }] ∧ (∀ W'', W''.cell? ⟨w.heap.size, 0, none⟩ = some (.bool true) → (results Try.f8 a'.tmps).run Try.prog W'' = .ok (.bool true) W'') ∧ ∃ Wn, W' = Wn.setCell ⟨w.heap.size, 0, none⟩ (.bool true) ∧ Keeps (fun _ => False) W Wn) (fun _ _ _ => False)) ?_ ?_
    · go_region_held3 (fun W' => W'.cell? ⟨b5, 0, none⟩ = some (.string kgh) ∧ W'.cell? ⟨b5, 1, none⟩ = some (.int .i64 0) ∧ W'.cell? ⟨b5, 2, none⟩ = some (.string e0) ∧ W'.cell? ⟨b5, 3, none⟩ = some (.slice cp5 cl5 cc5) ∧ W'.cell? ⟨b9, 0, none⟩ = some (.string kxy) ∧ W'.cell? ⟨b9, 1, none⟩ = some (.int .i64 0) ∧ W'.cell? ⟨b9, 2, none⟩ = some (.string e0) ∧ W'.cell? ⟨b9, 3, none⟩ = some (.slice cp9 cl9 cc9) ∧ W'.cell? ⟨B + 1 + 1, 0, none⟩ = some (.string kab) ∧ W'.cell? ⟨B + 1 + 1, 1, none⟩ = some (.int .i64 0) ∧ W'.cell? ⟨B + 1 + 1, 2, none⟩ = some (.string e0) ∧ W'.cell? ⟨B + 1 + 1, 3, none⟩ = some (.slice (some ⟨B + 1, 0, none⟩) 2 2)) (first | exact ⟨f01, f02, f03, f04, f05, f06, f07, f08, f09, f10, f11, f12⟩ | exact hFs.out _ hk) (first
        | ((go_simp; go_at_call 32; refine (leaf_any _ _).mono ?_; clear f01 f02 f03 f04 f05 f06 f07 f08 f09 f10 f11 f12 f13 f14; rintro e Wn ⟨rfl, hkn⟩; have hk := hk.trans hkn; obtain ⟨f01, f02, f03, f04, f05, f06, f07, f08, f09, f10, f11, f12, f13, f14⟩ := hF.out _ hk))
        | ((go_simp; go_at_call 17; (first | (refine (hEq5.out _ hk).mono ?_; clear hEq5) | refine (hEq9.out _ hk).mono ?_); clear f01 f02 f03 f04 f05 f06 f07 f08 f09 f10 f11 f12 f13 f14; rintro e Wn ⟨rfl, hkn⟩; have hk := hk.trans hkn; obtain ⟨f01, f02, f03, f04, f05, f06, f07, f08, f09, f10, f11, f12, f13, f14⟩ := hF.out _ hk))
        | ((go_simp; go_at_call 25; (first | (refine (hMay.out _ hk).mono ?_; clear hMay) | refine (hMay2.out _).mono ?_); clear f01 f02 f03 f04 f05 f06 f07 f08 f09 f10 f11 f12 f13 f14; rintro e Wn ⟨rfl, hkn⟩; have hk := hk.trans hkn; obtain ⟨f01, f02, f03, f04, f05, f06, f07, f08, f09, f10, f11, f12, f13, f14⟩ := hF.out _ hk))
        | ((go_simp; go_at_call 12; refine (hSame.out _ hk).mono ?_; clear f01 f02 f03 f04 f05 f06 f07 f08 f09 f10 f11 f12 f13 f14; rintro e Wn ⟨rfl, hkn⟩; have hk := hk.trans hkn; obtain ⟨f01, f02, f03, f04, f05, f06, f07, f08, f09, f10, f11, f12, f13, f14⟩ := hF.out _ hk)))
      all_goals exact ⟨rfl, fun W'' hc => by simp [results, Try.results8, go_sem, hc], _, rfl, hk⟩
    intro e a' W' hpost
    cases e
    case ret => exact hpost.elim
    case exit => exact hpost.elim
    case goto => exact hpost.elim
    case panic => exact hpost.elim
    case outgrown => exact hpost.elim
    obtain ⟨hdf, hres, Wn, rfl, hkn⟩ := hpost
    obtain ⟨tmps', defs'⟩ := a'
    simp only at hdf hres
    subst hdf
    go_wp2_with fail
    have hBn := HB14.out.next hkn
    have hDn := (hkn.block _ hDl (fun h => h)).trans hD
    have hne : W13.heap.size ≠ w.heap.size := by have := HB14.out.keeps.size; have := hB14s; omega
    refine ret_mark (v := .bool true) ((Below.heap_setCell _ _ _ _ hne).trans hDn) (hres _ ?_) ⟨rfl, ?_⟩
    · simp only [World.cell?, World.putObj_heap_other (Ne.symm hne), heap_set hBn.res]; rfl
    · exact (hBn.keeps.trans' ((Keeps.refl (fun b => b = w.heap.size) Wn).setCell (p := ⟨w.heap.size, 0, none⟩) (fun _ => rfl) _) (fun b hb hl => by omega)).trans' (Keeps.putObj _ _ _) (fun b hb hl => by omega)
end Go.Proofs.Ytnphhibfiklfjaa
