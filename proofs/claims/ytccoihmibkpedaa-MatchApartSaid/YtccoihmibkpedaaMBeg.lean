/-
  espalierlaw24.begun: its walk.
-/
import Derived.Test.YtccoihmibkpedaaPkF

import Derived.Test.YtccoihmibkpedaaOf

import Derived.Test.YtccoihmibkpedaaMatH

import Derived.Test.YtccoihmibkpedaaPkG

import Derived.Deep.RegionHeld3

set_option linter.unusedVariables false

set_option linter.unusedSimpArgs false

namespace Go.Proofs.Ytccoihmibkpedaa

open Go.RowKit

attribute [local go_sem] Oper.semAt_some

/-- What stays, all along: the pattern in box b1, the tree in box b2. -/
structure MB (w W : World) (b1 k1 b2 k2 : Nat) : Prop where
  p : NodeAt W (fun b => b < W.heap.size) b1 0 kAdd 0 e0 (foTwo kX kY) (some ⟨k1, 0, none⟩) 2 2
  t : NodeAt W (fun b => b < W.heap.size) b2 0 kAdd 0 e0 (foTwo kYes kNo) (some ⟨k2, 0, none⟩) 2 2
  keeps : Keeps (fun _ => False) w W
theorem NodeAt.nexT {w w1 : World} {A : Nat → Prop} {b o k n t c cp cl cc} (h : NodeAt w A b o k n t c cp cl cc) (hk : Keeps (fun _ => False) w w1) : NodeAt w1 (fun b => b < w1.heap.size) b o k n t c cp cl cc :=
  (h.keeps hk (fun _ _ h => h) (World.block_lt_of_cell? w _ h.c0) (fun h => h)).top
theorem MB.next {w W W' : World} {b1 k1 b2 k2 : Nat} (h : MB w W b1 k1 b2 k2) (hk : Keeps (fun _ => False) W W') : MB w W' b1 k1 b2 k2 := ⟨h.p.nexT hk, h.t.nexT hk, h.keeps.trans hk⟩
theorem MB.cells {w W : World} {b1 k1 b2 k2 : Nat} (h : MB w W b1 k1 b2 k2) :
    (W.cell? ⟨b1, 0, none⟩ = some (.string kAdd) ∧ W.cell? ⟨b1, 1, none⟩ = some (.int .i64 0) ∧ W.cell? ⟨b1, 2, none⟩ = some (.string e0) ∧ W.cell? ⟨b1, 3, none⟩ = some (.slice (some ⟨k1, 0, none⟩) 2 2)) ∧
    (W.cell? ⟨b2, 0, none⟩ = some (.string kAdd) ∧ W.cell? ⟨b2, 1, none⟩ = some (.int .i64 0) ∧ W.cell? ⟨b2, 2, none⟩ = some (.string e0) ∧ W.cell? ⟨b2, 3, none⟩ = some (.slice (some ⟨k2, 0, none⟩) 2 2)) :=
  ⟨⟨h.p.c0, h.p.c1, h.p.c2, h.p.c3⟩, h.t.c0, h.t.c1, h.t.c2, h.t.c3⟩
/-- A tree of two leaves, laid in a box. -/
theorem boxTwo {Wb Wc : World} {ka kb k : ByteArray} (sk : szok k e0) (sa : szok ka e0) (sb : szok kb e0) (hc : Keeps (fun _ => False) (Wb.alloc (.cells (twoCells ka kb) T)) Wc) :
    NodeAt (Wc.alloc (.cells (four k 0 e0 (some ⟨Wb.heap.size, 0, none⟩) 2 2) T)) (fun b => b < (Wc.alloc (.cells (four k 0 e0 (some ⟨Wb.heap.size, 0, none⟩) 2 2) T)).heap.size) Wc.heap.size 0 k 0 e0 (foTwo ka kb) (some ⟨Wb.heap.size, 0, none⟩) 2 2 := by
  have h1 := hc.heap (heap_alloc_new Wb _)
  have hk : Keeps (fun _ => False) Wc (Wc.alloc (.cells (four k 0 e0 (some ⟨Wb.heap.size, 0, none⟩) 2 2) T)) := (Keeps.refl _ Wc).alloc _
  exact (tvTwo sk sa sb (hk.heap h1)).boxedAt (heap_alloc_new Wc _)
set_option maxRecDepth 100000 in
set_option maxHeartbeats 6400000 in
theorem mbegun_any (w : World) : Calls Try.prog 9 #[] w fun e w' => e = .returned (.bool true) ∧ Keeps (fun _ => False) w w' := by
  obtain ⟨sA, sX, sY, sYes, sNo⟩ := szP
  go_enter Try.func9, Try.ntmps9
  go_wp2_with fail
  refine (of_any kX none 0 0 _).mono ?_
  rintro e Wa ⟨rfl, hka⟩
  go_wp2_with fail
  refine (of_any kY none 0 0 _).mono ?_
  rintro e Wb ⟨rfl, hkb⟩
  have hkb := hka.trans hkb
  clear hka
  go_wp2_with fail
  refine (of_any kAdd _ 2 2 _).mono ?_
  rintro e Wc ⟨rfl, hkc⟩
  have hP := boxTwo sA sX sY hkc
  have hkc := (hkb.alloc _).trans hkc
  clear hkb
  go_wp2_with fail
  refine (of_any kYes none 0 0 _).mono ?_
  rintro e Wd ⟨rfl, hkd⟩
  have hP := hP.nexT hkd
  have hkd := (hkc.alloc _).trans hkd
  clear hkc
  go_wp2_with fail
  refine (of_any kNo none 0 0 _).mono ?_
  rintro e We ⟨rfl, hke⟩
  have hP := hP.nexT hke
  have hke := hkd.trans hke
  clear hkd
  go_wp2_with fail
  refine (of_any kAdd _ 2 2 _).mono ?_
  rintro e Wf ⟨rfl, hkf⟩
  have hT := boxTwo sA sYes sNo hkf
  have hP := hP.nexT ((((Keeps.refl _ We).alloc _).trans hkf).alloc (.cells (four kAdd 0 e0 (some ⟨We.heap.size, 0, none⟩) 2 2) T))
  have hkf := ((hke.alloc _).trans hkf).alloc (.cells (four kAdd 0 e0 (some ⟨We.heap.size, 0, none⟩) 2 2) T)
  obtain ⟨b1, hb1⟩ : ∃ b, b = Wc.heap.size := ⟨_, rfl⟩
  obtain ⟨k1, hk1⟩ : ∃ b, b = Wb.heap.size := ⟨_, rfl⟩
  obtain ⟨k2, hk2⟩ : ∃ b, b = We.heap.size := ⟨_, rfl⟩
  obtain ⟨b2, hb2⟩ : ∃ b, b = Wf.heap.size := ⟨_, rfl⟩
  rw [← hb1, ← hk1, ← hk2] at hP
  rw [← hk2, ← hb2] at hT
  rw [← hk2] at hkf
  have hM : MB w (Wf.alloc (.cells (four kAdd 0 e0 (some ⟨k2, 0, none⟩) 2 2) T)) b1 k1 b2 k2 := ⟨hP, hT, hkf⟩
  have hB1 := Lib.hid hb1
  have hB2 := Lib.hid hb2
  have hK1 := Lib.hid hk1
  have hK2 := Lib.hid hk2
  have hz := Fits_any ndP ndT _ _ 2 2 2 2 _ _ _ hM.p.tv hM.t.tv
  rw [show fitsB ndP ndT = [(nX, lf kYes), (nY, lf kNo)] by simp [fitsB, fitsP], show (fitsF ndP ndT).isSome = true by simp [fitsP]] at hz
  obtain ⟨⟨c0, c1, c2, c3⟩, d0, d1, d2, d3⟩ := hM.cells
  rw [← hK2.out, ← hB1.out, ← hK1.out]
  clear hb1 hb2 hk1 hk2 hP hT hkf hke
  rw [hB2.out] at d0 d1 d2 d3
  go_wp2_with fail
  rw [← hB2.out]
  refine hz.mono ?_
  clear hz hB1 hB2 hK1 hK2 c0 c1 c2 c3 d0 d1 d2 d3
  rintro e W1 ⟨lp, ll, lc, xs, blks, rfl, hI, hk⟩
  have hM1 := hM.next hk
  have hll : ll = 2 := hI.length
  subst hll
  have hcap := hI.cap
  have hz := Fill_any ndP [(nX, lf kYes), (nY, lf kNo)] _ lp 2 2 2 lc _ _ _ hM1.p.tv hI.at_ hcap.1 hcap.2 (by omega)
  rw [fillP] at hz
  have hL := hI.at_.top
  have hlc := hcap.1
  have hlc2 := hcap.2
  clear hM hk hI hcap
  obtain ⟨⟨c0, c1, c2, c3⟩, d0, d1, d2, d3⟩ := hM1.cells
  go_wp2_with fail
  refine (hz.mono fun _ _ h => TreeRes.out2 h).mono ?_
  clear hz c0 c1 c2 c3 d0 d1 d2 d3
  rintro e W2 ⟨up, ul, uc, Au, rfl, hu, hAu, hk⟩
  have hM2 := (hM1.next hk).next ((Keeps.refl _ W2).alloc (.cells (four kAdd 0 e0 up ul uc) T))
  have hL := (hL.next hk).next ((Keeps.refl _ W2).alloc (.cells (four kAdd 0 e0 up ul uc) T))
  have hU := (hu.next ((Keeps.refl _ W2).alloc (.cells (four kAdd 0 e0 up ul uc) T))).boxedAt (n := 0) (heap_alloc_new W2 _)
  have hz := Fill_any ndP [] _ none 2 2 0 0 _ (fun _ => False) _ hM2.p.tv rfl (by omega) (by omega) (by omega)
  rw [fillP0] at hz
  obtain ⟨⟨c0, c1, c2, c3⟩, d0, d1, d2, d3⟩ := hM2.cells
  clear hM1 hk hu hAu
  go_wp2_with fail
  refine (hz.mono fun _ _ h => TreeRes.out2 h).mono ?_
  clear hz c0 c1 c2 c3 d0 d1 d2 d3
  rintro e W3 ⟨vp, vl, vc, Av, rfl, hv, hAv, hk⟩
  obtain ⟨b5, hb5⟩ : ∃ b, b = W2.heap.size := ⟨_, rfl⟩
  rw [← hb5] at hU
  have hkA : Keeps (fun _ => False) W3 (W3.alloc (.cells (four e0 0 e0 vp vl vc) T)) := (Keeps.refl _ W3).alloc _
  have hM3 := (hM2.next hk).next hkA
  have hL := (hL.next hk).next hkA
  have hU := (hU.nexT hk).nexT hkA
  clear hM2 hk hv hAv hkA
  obtain ⟨V, hV⟩ : ∃ V, V = W3.alloc (.cells (four e0 0 e0 vp vl vc) T) := ⟨_, rfl⟩
  rw [← hV] at hM3 hL hU
  go_upto_region 6 with fail
  rw [← hV, ← hb5]
  clear hV hb5
  go_cut [9, 10] from 13 (fun _ v W => v = .bool false ∧ Keeps (fun _ => False) V W)
  case first =>
    have HT : Hid (∀ W, Keeps (fun _ => False) V W → W.cell? ⟨b2, 0, none⟩ = some (.string kAdd) ∧ W.cell? ⟨b2, 1, none⟩ = some (.int .i64 0) ∧ W.cell? ⟨b2, 2, none⟩ = some (.string e0) ∧ W.cell? ⟨b2, 3, none⟩ = some (.slice (some ⟨k2, 0, none⟩) 2 2)) := Lib.hid fun W hk => (hM3.next hk).cells.2
    have HFT : Hid (∀ W B, Keeps (fun _ => False) V W → W.heap[B]? = some (.cells (twoCells kX kX) T (0, 0)) → Calls Try.prog 14 #[tv kAdd 0 e0 (some ⟨B, 0, none⟩) 2 2, tv kAdd 0 e0 (some ⟨k2, 0, none⟩) 2 2] W (FitsR [] false W)) := Lib.hid fun W B hk hb => by
      have hz := Fits_any ndQ ndT _ _ 2 2 2 2 _ _ _ (tvTwo sA sX sX hb) (hM3.next hk).t.tv
      rwa [show fitsB ndQ ndT = [] by simp [fitsB, fitsQ], show (fitsF ndQ ndT).isSome = false by simp [fitsQ]] at hz
    have hk : Keeps (fun _ => False) V V := Keeps.refl _ _
    clear hM3 hL hU
    go_region_held3 (fun W' => W'.cell? ⟨b2, 0, none⟩ = some (.string kAdd) ∧ W'.cell? ⟨b2, 1, none⟩ = some (.int .i64 0) ∧ W'.cell? ⟨b2, 2, none⟩ = some (.string e0) ∧ W'.cell? ⟨b2, 3, none⟩ = some (.slice (some ⟨k2, 0, none⟩) 2 2)) (exact HT.out _ (by repeat' (first | exact hk | refine Keeps.drew ?_ | refine Keeps.alloc ?_ _))) (first
      | ((go_simp; go_at_call 37; (with_reducible refine (of_any kX none 0 0 _).mono ?_); rintro e W1 ⟨rfl, hkn⟩; have hk := Keeps.trans (w := V) (by repeat' (first | exact hk | refine Keeps.drew ?_ | refine Keeps.alloc ?_ _)) hkn))
      | ((go_simp; go_at_call 37; (with_reducible refine (of_any kAdd _ 2 2 _).mono ?_); rintro e W1 ⟨rfl, hkn⟩; have hbk := hkn.heap (heap_alloc_new _ _); have hk := Keeps.trans (w := V) (by repeat' (first | exact hk | refine Keeps.drew ?_ | refine Keeps.alloc ?_ _)) hkn))
      | ((go_simp; go_at_call 14; (with_reducible refine (HFT.out _ _ hk hbk).mono ?_); rintro e W1 ⟨lq, lql, lqc, xq, bq, rfl, hIq, hkn⟩; have hk := Keeps.trans (w := V) (by repeat' (first | exact hk | refine Keeps.drew ?_ | refine Keeps.alloc ?_ _)) hkn)))
    all_goals
      go_wp2_with fail
      go_meet
      case rel => exact ⟨rfl, hk⟩
  case rest =>
    obtain ⟨W4, hW4⟩ : ∃ W4, W4 = wc := ⟨_, rfl⟩
    subst hW4
    obtain ⟨hu, hk4⟩ := hcut
    subst hu
    have hM4 := hM3.next hk4
    have hL := hL.next hk4
    have hU := hU.nexT hk4
    clear hM3 hk4
    have hz := pNames_any ndP _ 2 2 _ _ hM4.p.tv
    rw [namesP] at hz
    obtain ⟨⟨c0, c1, c2, c3⟩, d0, d1, d2, d3⟩ := hM4.cells
    go_wp2_with fail
    refine hz.mono ?_
    clear hz c0 c1 c2 c3 d0 d1 d2 d3
    rintro e W5 ⟨np, nl, nc, rfl, hrow, _, hk⟩
    have hnl : nl = 2 := row_len hrow
    subst hnl
    have hM5 := hM4.next hk
    have hL := hL.next hk
    have hU := hU.nexT hk
    clear hM4 hk hrow
    go_upto_region 8 with fail
    go_cut [12] from 13 (fun v W => ∃ fp fc, v = .slice fp 3 fc ∧ Keeps (fun _ => False) W5 W)
    case first =>
      have HT : Hid (∀ W, Keeps (fun _ => False) W5 W → W.cell? ⟨b2, 0, none⟩ = some (.string kAdd) ∧ W.cell? ⟨b2, 1, none⟩ = some (.int .i64 0) ∧ W.cell? ⟨b2, 2, none⟩ = some (.string e0) ∧ W.cell? ⟨b2, 3, none⟩ = some (.slice (some ⟨k2, 0, none⟩) 2 2)) := Lib.hid fun W hk => (hM5.next hk).cells.2
      have HFD : Hid (∀ W, Keeps (fun _ => False) W5 W → Calls Try.prog 22 #[tv kX 0 e0 none 0 0, tv kAdd 0 e0 (some ⟨k2, 0, none⟩) 2 2] W fun e W' => ∃ fp fc, e = .returned (.slice fp 3 fc) ∧ Keeps (fun _ => False) W W') := Lib.hid fun W hk => by
        refine (MFind_any (lf kX) ndT _ _ 0 0 2 2 _ _ W (tvLf W kX sX) (hM5.next hk).t.tv).mono ?_
        rintro e W' ⟨lp, ll, lc, vs, rfl, hI, hk⟩
        have h3 : ll = 3 := by rw [row_len hI.row, hI.len, findX]
        exact ⟨lp, lc, by rw [h3], hk⟩
      have hk : Keeps (fun _ => False) W5 W5 := Keeps.refl _ _
      clear hM5 hL hU
      go_region_held3 (fun W' => W'.cell? ⟨b2, 0, none⟩ = some (.string kAdd) ∧ W'.cell? ⟨b2, 1, none⟩ = some (.int .i64 0) ∧ W'.cell? ⟨b2, 2, none⟩ = some (.string e0) ∧ W'.cell? ⟨b2, 3, none⟩ = some (.slice (some ⟨k2, 0, none⟩) 2 2)) (exact HT.out _ (by repeat' (first | exact hk | refine Keeps.drew ?_ | refine Keeps.alloc ?_ _))) (first
        | ((go_simp; go_at_call 37; (with_reducible refine (of_any kX none 0 0 _).mono ?_); rintro e W1 ⟨rfl, hkn⟩; have hk := Keeps.trans (w := W5) (by repeat' (first | exact hk | refine Keeps.drew ?_ | refine Keeps.alloc ?_ _)) hkn))
        | ((go_simp; go_at_call 22; (with_reducible refine (HFD.out _ hk).mono ?_); rintro e W1 ⟨fp, fc, rfl, hkn⟩; have hk := Keeps.trans (w := W5) (by repeat' (first | exact hk | refine Keeps.drew ?_ | refine Keeps.alloc ?_ _)) hkn)))
      all_goals
        go_wp2_with fail
        go_meet
        case rel => exact ⟨_, _, rfl, hk⟩
    case rest =>
      obtain ⟨W6, hW6⟩ : ∃ W6, W6 = wc := ⟨_, rfl⟩
      subst hW6
      obtain ⟨fp, fc, hu, hk6⟩ := hcut
      subst hu
      have hM6 := hM5.next hk6
      have hL := hL.next hk6
      have hU := hU.nexT hk6
      clear hM5 hk6
      obtain ⟨lb, lo, rfl, _, _⟩ := hL.addr (by omega)
      have l0 := (hL.at_ (i := 0) (nm := nX) (x := lf kYes) rfl).2.1
      obtain ⟨_, _, _, lN⟩ := (hL.at_ (i := 1) (nm := nY) (x := lf kNo) rfl).2.2.2.2
      have l1 := lN.c0
      simp only [Nat.zero_mul, Nat.add_zero, Nat.one_mul] at l0 l1
      obtain ⟨⟨c0, c1, c2, c3⟩, d0, d1, d2, d3⟩ := hM6.cells
      have u0 := hU.c0
      have u1 := hU.c1
      have u2 := hU.c2
      have u3 := hU.c3
      have hz := Eq_any 3 kAdd kAdd 0 0 e0 e0 (foTwo kYes kNo) (foTwo kYes kNo) _ _ _ _ _ _ _ _ _ (by decide) hU.tv hM6.t.tv
      rw [eqB_self] at hz
      clear lN hU
      go_wp2_with fail
      refine hz.mono ?_
      clear hz c0 c1 c2 c3 d0 d1 d2 d3 u0 u1 u2 u3 l0 l1 hL
      rintro e W7 ⟨rfl, hk7⟩
      have hM7 := hM6.next hk7
      clear hM6 hk7
      go_wp2_with fail
      refine (of_any kNo none 0 0 _).mono ?_
      rintro e W8 ⟨rfl, hk8⟩
      go_wp2_with fail
      refine (of_any kX _ 1 1 _).mono ?_
      rintro e W9 ⟨rfl, hk9⟩
      have hb := hk9.heap (heap_alloc_new W8 _)
      have hz := pMay_any ndU _ 1 1 _ W9 (tvOne sX sNo hb)
      rw [pmayU] at hz
      have hM9 := hM7.next ((hk8.alloc _).trans hk9)
      clear hM7 hk8 hk9 hb
      go_wp2_with fail
      refine hz.mono ?_
      clear hz
      rintro e Wa ⟨rfl, hka⟩
      have hMa := hM9.next hka
      clear hM9 hka
      have hz := pMay_any ndP _ 2 2 _ Wa hMa.p.tv
      rw [pmayP] at hz
      obtain ⟨⟨c0, c1, c2, c3⟩, _⟩ := hMa.cells
      go_wp2_with fail
      refine hz.mono ?_
      clear hz c0 c1 c2 c3
      rintro e Wb ⟨rfl, hkb⟩
      have hMb := hMa.next hkb
      clear hMa hkb
      go_wp2_with fail
      go_ret
      exact ⟨rfl, hMb.keeps⟩
end Go.Proofs.Ytccoihmibkpedaa
