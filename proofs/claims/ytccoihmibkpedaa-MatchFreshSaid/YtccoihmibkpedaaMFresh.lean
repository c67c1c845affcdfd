/-
  espalierlaw24.MatchFresh: its walk.
-/
import Derived.Test.YtccoihmibkpedaaMFreshP

import Derived.Test.YtccoihmibkpedaaMBeg

import Derived.BigQuiet

set_option linter.unusedVariables false

set_option linter.unusedSimpArgs false

namespace Go.Proofs.Ytccoihmibkpedaa

open Go.RowKit

abbrev kSp : ByteArray := ⟨#[115, 112, 111, 105, 108, 116]⟩

set_option maxRecDepth 100000 in
set_option maxHeartbeats 12800000 in
theorem matchFresh_any (sp : Option Addr) (sl sc : Nat) (w : World) (h : MOps w sp sl) (hsl : sl ≤ sc) (hsc : sc ≤ 9223372036854775807) :
    Calls Try.prog 4 #[.slice sp sl sc] w fun e w' => e = .returned (.bool true) ∧ Keeps (fun _ => False) w w' := by
  have hbg := mbegun_any w
  have HH := Lib.hid h
  clear h
  go_enter Try.func4, Try.ntmps4
  go_wp2_with fail
  refine hbg.mono ?_
  clear hbg
  rintro e w1 ⟨rfl, hk1⟩
  go_wp2_with fail
  go_loopg [3] sl (fun m i W => ∃ j : Nat, j + m = sl ∧ i = .int .i64 j ∧ j ≤ 40 ∧ Keeps (fun _ => False) w W)
  case atStart => exact ⟨0, by omega, rfl, by omega, hk1⟩
  case round =>
    obtain ⟨w0, hw0⟩ : ∃ X, X = wr := ⟨_, rfl⟩
    subst hw0
    obtain ⟨j, hjm, rfl, hj5, hk⟩ := hrel
    have HJ := Lib.hid hjm
    have HK := Lib.hid hk
    clear hjm hk hk1
    by_cases hlt : j < sl
    · by_cases hj2 : j < 40
      · obtain ⟨ab, ao, rfl, hab, kd, p, t, bs, cp, tp, cl, cc, tl, tc, bp, bl, bc, hop⟩ := HH.out j hlt
        have hopr := hop.next hab HK.out
        obtain ⟨W1, hW1⟩ : ∃ W1, W1 = w0.alloc (.cells (mopc kd p t cp tp cl cc tl tc bp bl bc) MT) := ⟨_, rfl⟩
        have hT : MF w0 W1 kd p t bs cp tp cl cc tl tc bp bl bc := by rw [hW1]; exact MF.start hopr
        have hk01 : Keeps (fun _ => False) w0 W1 := by rw [hW1]; exact (Keeps.refl _ _).alloc _
        obtain ⟨c0, c1, c2, c3, c4, c5, c6, c7, c8, c9⟩ := (⟨hopr.c0, hopr.c1, hopr.c2, hopr.c3, hopr.c4, hopr.c5, hopr.c6, hopr.c7, hopr.c8, hopr.c9⟩ : _ ∧ _ ∧ _ ∧ _ ∧ _ ∧ _ ∧ _ ∧ _ ∧ _ ∧ _)
        have hi0 : (0 : Int) ≤ (j : Int) := Int.natCast_nonneg _
        have hi1 : (j : Int) < (sl : Int) := by omega
        have hbc1 := hop.bc1
        have hbc2 := hop.bc2
        have hsh := hop.short
        have HW1 := Lib.hid hW1
        clear hW1 hopr hop
        go_upto_region 7 with fail
        rw [← HW1.out]
        have hz := mlight_any kd p t bs cp tp bp cl cc tl tc bl bc _ _ _ W1 hT.ap hT.at' hT.ab hbc1 hbc2
        obtain ⟨m, hm⟩ : ∃ m, mlightF p t bs = m := ⟨_, rfl⟩
        rw [hm] at hz
        obtain ⟨⟨o0, o9⟩, ⟨a0, a1, a2, a3⟩, ⟨b0, b1, b2, b3⟩⟩ := mbox hT.box
        clear hm c0 c1 c2 c3 c4 c5 c6 c7 c8 c9
        go_wp2_with fail
        refine hz.mono ?_
        clear hz o0 o9 a0 a1 a2 a3 b0 b1 b2 b3
        rintro e V ⟨rfl, hkV⟩
        have hV := hT.next hkV
        have HKV := Lib.hid ((HK.out.trans hk01).trans hkV)
        clear hT hkV HW1 hk01
        cases m with
        | false =>
          go_wp2_with fail
          go_roundg (gk - 1)
          case measure => have := HJ.out; omega
          case rel => exact ⟨j + 1, by have := HJ.out; omega, by go_num, by omega, HKV.out⟩
        | true =>
          have hC1 : ∀ W, MF w0 W kd p t bs cp tp cl cc tl tc bp bl bc → Calls Try.prog 14 #[tv p.k p.n p.t cp cl cc, tv t.k t.n t.t tp tl tc] W (FitsR (fitsB p t) (fitsF p t).isSome W) := fun W h => Fits_any p t cp tp cl cc tl tc _ _ W h.ap h.at'
          have hC2 : ∀ W, MF w0 W kd p t bs cp tp cl cc tl tc bp bl bc → Calls Try.prog 15 #[tv p.k p.n p.t cp cl cc, tv t.k t.n t.t tp tl tc] W (RFitsX (fun b => b < w0.heap.size) (fitsB p t) (fitsF p t).isSome W) := fun W h => rFitsX_any p t cp tp cl cc tl tc _ _ W h.ap h.at' (fun b hb => by have := h.low; omega)
          have hC3 : ∀ W, MF w0 W kd p t bs cp tp cl cc tl tc bp bl bc → Calls Try.prog 16 #[tv p.k p.n p.t cp cl cc, .slice bp bl bc] W (TreeRes W (fillF p bs)) := fun W h => Fill_any p bs cp bp cl cc bl bc _ _ W h.ap h.ab hbc1 hbc2 hsh
          have hC4 : ∀ W, MF w0 W kd p t bs cp tp cl cc tl tc bp bl bc → Calls Try.prog 17 #[tv p.k p.n p.t cp cl cc, .slice bp bl bc] W (RFillX (fun b => b < w0.heap.size) (fillF p bs) W) := fun W h => rFillX_any p bs cp bp cl cc bl bc _ _ W h.ap h.ab hbc1 hbc2 (fun b hb => by have := h.low; omega)
          have HSM := Lib.hid (fitsB_small (p := p) (t := t))
          have HFS := Lib.hid (fillF_small p bs)
          obtain ⟨L, hL⟩ : ∃ L, fitsB p t = L := ⟨_, rfl⟩
          obtain ⟨ok, hok⟩ : ∃ r, (fitsF p t).isSome = r := ⟨_, rfl⟩
          obtain ⟨⟨y, nn⟩, hy⟩ : ∃ r, fillF p bs = r := ⟨_, rfl⟩
          rw [hL, hok] at hC1 hC2
          rw [hy] at hC3 hC4 HFS
          rw [hL] at HSM
          have C1 := Lib.hid hC1
          have C2 := Lib.hid hC2
          have C3 := Lib.hid hC3
          have C4 := Lib.hid hC4
          clear hL hok hy hC1 hC2 hC3 hC4
          -- l
          have hz := C1.out V hV
          obtain ⟨_, ⟨a0, a1, a2, a3⟩, ⟨b0, b1, b2, b3⟩⟩ := mbox hV.box
          go_wp2_with fail
          refine hz.mono ?_
          clear hz a0 a1 a2 a3 b0 b1 b2 b3
          rintro e V2 ⟨lp, ll, lc, xs, blks, rfl, hI1, hk2⟩
          obtain rfl := hI1.length
          have hV2 := hV.next hk2
          have HI1 := Lib.hid hI1
          obtain ⟨hlc1, hlc2⟩ := hI1.cap
          have HKA := Lib.hid hk2
          have HLV := Lib.hid hV.low
          have HS2 := Lib.hid hk2.size
          clear hI1 hk2 hV
          -- m
          have hz := C1.out V2 hV2
          obtain ⟨_, ⟨a0, a1, a2, a3⟩, ⟨b0, b1, b2, b3⟩⟩ := mbox hV2.box
          go_wp2_with fail
          refine hz.mono ?_
          clear hz a0 a1 a2 a3 b0 b1 b2 b3
          rintro e V3 ⟨mp, ml, mc, xs2, blks2, rfl, hI2, hk3⟩
          obtain rfl := hI2.length
          have hV3 := hV2.next hk3
          have hmc := hI2.cap
          have hM : BindsAt V3 (fun b => V2.heap.size ≤ b ∧ b < V3.heap.size) L mp L.length := hI2.at_.mono fun b hb => by
            rcases hb with hb | hb
            · exact hI2.row.lt b hb
            · exact ⟨hI2.lo b hb, hI2.lt b hb⟩
          have HM := Lib.hid hM
          have HMC := Lib.hid hmc
          have HKB := Lib.hid (HKA.out.trans hk3)
          have HK23 := Lib.hid hk3
          have HS3 := Lib.hid hk3.size
          clear hM hmc hI2 hk3 hV2
          -- want
          have hz := C2.out V3 hV3
          obtain ⟨_, ⟨a0, a1, a2, a3⟩, ⟨b0, b1, b2, b3⟩⟩ := mbox hV3.box
          go_wp2_with fail
          refine hz.mono ?_
          clear hz a0 a1 a2 a3 b0 b1 b2 b3
          rintro e V4 ⟨np, nl, nc, xs3, rfl, hI3, hk4⟩
          obtain rfl := hI3.length
          have hV4 := hV3.next hk4
          have hnc := hI3.cap
          have hN : BindsAt V4 (fun b => b < w0.heap.size ∨ (V3.heap.size ≤ b ∧ b < V4.heap.size)) L np L.length := hI3.at_.mono fun b hb => by
            rcases hb with hb | hb
            · exact .inr (hI3.row.lt b hb)
            · exact .inl hb
          have HN := Lib.hid hN
          have HNC := Lib.hid hnc
          have HKC := Lib.hid (HKB.out.trans hk4)
          have HK34 := Lib.hid hk4
          have HS4 := Lib.hid hk4.size
          clear hN hnc hI3 hk4 hV3
          -- t
          have hz := C3.out V4 hV4
          obtain ⟨⟨o0, o9⟩, ⟨a0, a1, a2, a3⟩, _⟩ := mbox hV4.box
          go_wp2_with fail
          refine hz.mono ?_
          clear hz a0 a1 a2 a3 o0 o9
          rintro e U5 ⟨tp1, tl1, tc1, bsT, rfl, hOT, hNT, hsT, hk5⟩
          obtain ⟨V5, hV5e⟩ : ∃ X, X = U5.alloc (.cells (four y.k y.n y.t tp1 tl1 tc1) T) := ⟨_, rfl⟩
          have hkb : Keeps (fun _ => False) U5 V5 := by rw [hV5e]; exact (Keeps.refl _ _).alloc _
          have hs5 : V5.heap.size = U5.heap.size + 1 := by rw [hV5e]; simp
          have hB5 : V5.heap[U5.heap.size]? = some (.cells (four y.k y.n y.t tp1 tl1 tc1) T (0, 0)) := by rw [hV5e]; exact heap_alloc_new _ _
          have hOT5 := hOT.keeps hkb (fun b hb => ⟨hNT.hi b hb, fun h => h⟩)
          have hV5 := hV4.next (hk5.trans hkb)
          have HV5E := Lib.hid hV5e
          have HOT := Lib.hid hOT5
          have HNT := Lib.hid hNT
          have HB5 := Lib.hid hB5
          have HKD := Lib.hid ((HKC.out.trans hk5).trans hkb)
          have HK45 := Lib.hid (hk5.trans hkb)
          have HS5 := Lib.hid hs5
          have HSU5 := Lib.hid hk5.size
          clear hV5e hkb hs5 hB5 hOT hOT5 hNT hk5 hV4 hsT
          obtain ⟨_, ⟨a0, a1, a2, a3⟩, _⟩ := mbox hV5.box
          go_upto_region 12 with fail
          rw [← HV5E.out]
          -- u
          have hz := C3.out V5 hV5
          obtain ⟨⟨o0, o9⟩, ⟨a0, a1, a2, a3⟩, _⟩ := mbox hV5.box
          go_wp2_with fail
          refine hz.mono ?_
          clear hz a0 a1 a2 a3 o0 o9 HV5E
          rintro e U6 ⟨up1, ul1, uc1, bsU, rfl, hOU, hNU, hsU, hk6⟩
          obtain ⟨V6, hV6e⟩ : ∃ X, X = U6.alloc (.cells (four y.k y.n y.t up1 ul1 uc1) T) := ⟨_, rfl⟩
          have hkb : Keeps (fun _ => False) U6 V6 := by rw [hV6e]; exact (Keeps.refl _ _).alloc _
          have hB6 : V6.heap[U6.heap.size]? = some (.cells (four y.k y.n y.t up1 ul1 uc1) T (0, 0)) := by rw [hV6e]; exact heap_alloc_new _ _
          have hU6 : Tv V6 (fun b => V5.heap.size ≤ b ∧ b < U6.heap.size) y.k y.t y.c up1 ul1 uc1 := ((hOU.tv hsU).mono (fun b hb => ⟨hNU.lo b hb, hNU.hi b hb⟩)).next hkb
          have hV6 := hV5.next (hk6.trans hkb)
          have HV6E := Lib.hid hV6e
          have HU6 := Lib.hid hU6
          have HB6 := Lib.hid hB6
          have HKE := Lib.hid ((HKD.out.trans hk6).trans hkb)
          have HS6 := Lib.hid (hk6.size)
          have HK56 := Lib.hid (hk6.trans hkb)
          clear hV6e hkb hB6 hU6 hOU hNU hk6 hV5 hsU
          go_upto_region 13 with fail
          rw [← HV6E.out]
          -- full
          have hz := C4.out V6 hV6
          obtain ⟨⟨o0, o9⟩, ⟨a0, a1, a2, a3⟩, _⟩ := mbox hV6.box
          go_wp2_with fail
          refine hz.mono ?_
          clear hz a0 a1 a2 a3 o0 o9 HV6E
          rintro e U7 ⟨fp1, fl1, fc1, rfl, hF7, hk7⟩
          obtain ⟨V7, hV7e⟩ : ∃ X, X = U7.alloc (.cells (four y.k y.n y.t fp1 fl1 fc1) T) := ⟨_, rfl⟩
          have hkb : Keeps (fun _ => False) U7 V7 := by rw [hV7e]; exact (Keeps.refl _ _).alloc _
          have hB7 : V7.heap[U7.heap.size]? = some (.cells (four y.k y.n y.t fp1 fl1 fc1) T (0, 0)) := by rw [hV7e]; exact heap_alloc_new _ _
          have hV7 := hV6.next (hk7.trans hkb)
          have HV7E := Lib.hid hV7e
          have HF7 := Lib.hid (hF7.next hkb)
          have HB7 := Lib.hid hB7
          have HK67 := Lib.hid (hk7.trans hkb)
          have HK57 := Lib.hid (HK56.out.trans HK67.out)
          have HKF := Lib.hid (HKE.out.trans HK67.out)
          have HK47 := Lib.hid (HK45.out.trans HK57.out)
          have HK37 := Lib.hid (HK34.out.trans HK47.out)
          have HK27 := Lib.hid (HK23.out.trans HK37.out)
          have HS7 := Lib.hid hk7.size
          clear hV7e hkb hB7 hF7 hk7 hV6
          obtain ⟨g, hg⟩ : ∃ g, 0 < L.length → lp = some ⟨g, 0, none⟩ ∧ V.heap.size ≤ g ∧ g < V2.heap.size ∧ SI g L xs blks 0 V7 := by
            by_cases h0 : 0 < L.length
            · obtain ⟨g, h1, h2, h3, h4⟩ := SI.start HI1.out h0
              exact ⟨g, fun _ => ⟨h1, h2, h3, h4.next HK27.out⟩⟩
            · exact ⟨0, fun h => absurd h h0⟩
          have HG := Lib.hid hg
          have HV7 := Lib.hid hV7
          clear hg hV7
          go_upto_region 14 with fail
          rw [← HV7E.out]
          go_wp2_with fail
          go_loopg [17] L.length (fun m i W => ∃ k : Nat, k + m = L.length ∧ i = .int .i64 k ∧ (0 < L.length → SI g L xs blks k W) ∧ Keeps (fun b => V.heap.size ≤ b ∧ b < V2.heap.size) V7 W)
          case atStart => exact ⟨0, by omega, rfl, fun h => (HG.out h).2.2.2, Keeps.refl _ _⟩
          case round =>
            obtain ⟨W8, hW8⟩ : ∃ X, X = wr := ⟨_, rfl⟩
            subst hW8
            obtain ⟨k, hkm, rfl, hSI, hk8⟩ := hrel
            have HKM := Lib.hid hkm
            have HK8 := Lib.hid hk8
            have HSI := Lib.hid hSI
            have hk0 : (0 : Int) ≤ (k : Int) := Int.natCast_nonneg _
            clear hkm hk8 hSI
            by_cases hkl : k < L.length
            · obtain ⟨⟨nm, x⟩, hx⟩ : ∃ e, L[k]? = some e := ⟨_, List.getElem?_eq_getElem hkl⟩
              obtain ⟨rfl, hg1, hg2, _⟩ := HG.out (by omega)
              obtain ⟨xp, xl, xc, bs1, ⟨d0, d1, d2, d3, d4⟩, hO, hnd, hsub, hnext⟩ := (HSI.out (by omega)).open hx
              have hn : x.c.nodes < 1024 := small_nodes (HSM.out (nm, x) (List.mem_of_getElem? hx))
              have hz := spoil_any (x.c.nodes + 1) (by omega) x.k x.n x.t x.c xp xl xc bs1 W8 (by omega) hO hnd
              have hi2 : (k : Int) < (L.length : Int) := by omega
              have HNX := Lib.hid hnext
              have HSB := Lib.hid hsub
              clear hO hnd hsub hnext hx hn
              go_wp2_with fail
              refine hz.mono ?_
              clear hz d0 d1 d2 d3 d4
              rintro e W9 ⟨rfl, hk9⟩
              obtain ⟨⟨⟨d0, d1, d2, d3, d4⟩, hfz⟩, hfin⟩ := HNX.out W9 hk9
              have f0 := hfz (k * 5)
              have f1 := hfz (k * 5 + 1)
              have f2 := hfz (k * 5 + 2)
              have f3 := hfz (k * 5 + 3)
              have f4 := hfz (k * 5 + 4)
              have HFIN := Lib.hid (hfin (.string kSp) (.string e0) (.int .i64 0) (.string e0) (.slice none 0 0))
              have HKG := Lib.hid ((HK8.out.trans' hk9 (fun b hb hl => ⟨HI1.out.lo b (HSB.out b hb), HI1.out.lt b (HSB.out b hb)⟩)).trans' (set5_keeps W9 g (k * 5) (.string kSp) (.string e0) (.int .i64 0) (.string e0) (.slice none 0 0)) (fun b hb hl => by rw [hb]; exact ⟨hg1, hg2⟩))
              clear hfz hfin hk9
              go_wp2_with fail
              go_roundg (gk - 1)
              case measure => have := HKM.out; omega
              case rel => exact ⟨k + 1, by have := HKM.out; omega, by go_num, fun _ => HFIN.out, HKG.out⟩
            · have hS1 : ∀ b, (V.heap.size ≤ b ∧ b < V2.heap.size) → w0.heap.size < b := fun b hb => by have := HLV.out; omega
              have s23 := HS3.out
              have s34 := HS4.out
              have s45 := HSU5.out
              have s55 := HS5.out
              have hV8 := HV7.out.keeps HK8.out hS1
              have hB58 := ((HK57.out.heap HB5.out))
              have hB58 := (HK8.out.block _ (heap_lt hB58) (by omega)).trans hB58
              have hO8 := (HOT.out.keeps HK57.out (fun b hb => ⟨by have := HNT.out.hi b hb; omega, fun h => h⟩)).keeps HK8.out (fun b hb => ⟨by have h1 := HNT.out.hi b hb; have := HK57.out.size; omega, fun h => by have := HNT.out.lo b hb; omega⟩)
              have hn : y.c.nodes < 1024 := small_nodes HFS.out
              have hz := spoil_any (y.c.nodes + 1) (by omega) y.k y.n y.t y.c tp1 tl1 tc1 bsT W8 (by omega) hO8 HNT.out.nodup
              obtain ⟨q0, q1, q2, q3, _⟩ := box4 hB58
              have HV8 := Lib.hid hV8
              clear hO8 hn hB58 hV8 s23 s34 s45 s55
              go_wp2_with fail
              refine hz.mono ?_
              clear hz q0 q1 q2 q3
              rintro e W9 ⟨rfl, hk9⟩
              have hV9 := HV8.out.keeps hk9 (fun b hb => by have := HNT.out.lo b hb; have := HLV.out; have := HS2.out; have := HS3.out; have := HS4.out; omega)
              have HK79 := Lib.hid ((HK8.out.mono (S' := fun b => (V.heap.size ≤ b ∧ b < V2.heap.size) ∨ b ∈ bsT) (fun b hb _ => .inl hb)).trans (hk9.mono (S' := fun b => (V.heap.size ≤ b ∧ b < V2.heap.size) ∨ b ∈ bsT) (fun b hb _ => .inr hb)))
              clear hk9 HV8 HV7
              -- x
              have hz := C1.out W9 hV9
              obtain ⟨_, ⟨a0, a1, a2, a3⟩, ⟨b0, b1, b2, b3⟩⟩ := mbox hV9.box
              go_wp2_with fail
              refine hz.mono ?_
              clear hz a0 a1 a2 a3 b0 b1 b2 b3
              rintro e V10 ⟨xp, xl, xc, xs4, blks4, rfl, hI4, hk10⟩
              obtain rfl := hI4.length
              have hV10 := hV9.next hk10
              have hxc := hI4.cap
              have HX := Lib.hid hI4.at_
              have HXC := Lib.hid hxc
              have HK10 := Lib.hid hk10
              clear hxc hI4 hk10 hV9
              -- y
              have hz := C3.out V10 hV10
              obtain ⟨⟨o0, o9⟩, ⟨a0, a1, a2, a3⟩, _⟩ := mbox hV10.box
              go_wp2_with fail
              refine hz.mono ?_
              clear hz a0 a1 a2 a3 o0 o9
              rintro e U11 ⟨yp1, yl1, yc1, bsY, rfl, hOY, hNY, hsY, hk11⟩
              obtain ⟨V11, hV11e⟩ : ∃ X, X = U11.alloc (.cells (four y.k y.n y.t yp1 yl1 yc1) T) := ⟨_, rfl⟩
              have hkb : Keeps (fun _ => False) U11 V11 := by rw [hV11e]; exact (Keeps.refl _ _).alloc _
              have hB11 : V11.heap[U11.heap.size]? = some (.cells (four y.k y.n y.t yp1 yl1 yc1) T (0, 0)) := by rw [hV11e]; exact heap_alloc_new _ _
              have hY11 := (hOY.tv hsY).next hkb
              have hk1011 := hk11.trans hkb
              have hk911 := HK10.out.trans hk1011
              have hS : Keeps (fun b => (V.heap.size ≤ b ∧ b < V2.heap.size) ∨ b ∈ bsT) V7 V11 := HK79.out.trans' hk911 (fun b hb _ => hb.elim)
              have hbT : ∀ b ∈ bsT, V4.heap.size ≤ b ∧ b < U5.heap.size := fun b hb => ⟨HNT.out.lo b hb, HNT.out.hi b hb⟩
              have s12 := HS2.out
              have s23 := HS3.out
              have s34 := HS4.out
              have s45 := HSU5.out
              have s55 := HS5.out
              have s6 := HS6.out
              have s7 := HS7.out
              have slv := HLV.out
              have l6 := heap_lt HB6.out
              have hk47 := HK47.out
              have hk37 := HK37.out
              have hM11 := (HM.out.keeps hk37 (fun _ _ h => h)).keeps hS (fun b hb e => e.elim (fun e => by omega) (fun e => by have := hbT b e; omega))
              have hN11 := (HN.out.keeps hk47 (fun _ _ h => h)).keeps hS (fun b hb e => e.elim (fun e => by omega) (fun e => by have := hbT b e; omega))
              have hX11 := HX.out.next hk1011
              have hU11 := (HU6.out.next HK67.out).keeps hS (fun b hb e => e.elim (fun e => by omega) (fun e => by have := hbT b e; omega))
              have hF11 := HF7.out.keeps hS (fun b hb e => e.elim (fun e => by omega) (fun e => by have := hbT b e; omega))
              have hB6' := HK67.out.heap HB6.out
              have hB611 := (hS.block _ (heap_lt hB6') (fun e => e.elim (fun e => by omega) (fun e => by have := hbT _ e; omega))).trans hB6'
              have hB711 := (hS.block _ (heap_lt HB7.out) (fun e => e.elim (fun e => by omega) (fun e => by have := hbT _ e; omega))).trans HB7.out
              have HFIN : Hid (Keeps (fun _ => False) w V11) := Lib.hid ((HKV.out.trans HKF.out).trans' hS (fun b hb hl => by
                have := HKV.out.size
                have := HK.out.size
                rcases hb with hb | hb
                · omega
                · have := hbT b hb; omega))
              have HM11 := Lib.hid hM11
              have HN11 := Lib.hid hN11
              have HX11 := Lib.hid hX11
              have HU11 := Lib.hid hU11
              have HF11 := Lib.hid hF11
              have HY11 := Lib.hid hY11
              have HBB6 := Lib.hid hB611
              have HBB7 := Lib.hid hB711
              have HBB11 := Lib.hid hB11
              have HV11E := Lib.hid hV11e
              clear hM11 hN11 hX11 hU11 hF11 hY11 hB6' hB611 hB711 hB11 hV11e hkb hk1011 hk911 hS hbT s12 s23 s34 s45 s55 s6 s7 slv l6 hk47 hk37 hOY hNY hsY hk11 hV10
              go_upto_region 22 with fail
              rw [← HV11E.out]
              have hz := mEq_any L mp np L.length mc nc _ _ V11 HM11.out HN11.out HMC.out.1 HMC.out.2 HNC.out.1 HNC.out.2
              go_wp2_with fail
              refine hz.mono ?_
              clear hz
              rintro e Z1 ⟨rfl, hz1⟩
              have hz := mEq_any L xp np L.length xc nc _ _ Z1 (HX11.out.next hz1) (HN11.out.next hz1) HXC.out.1 HXC.out.2 HNC.out.1 HNC.out.2
              go_wp2_with fail
              refine hz.mono ?_
              clear hz
              rintro e Z2 ⟨rfl, hz2⟩
              have hz2 := hz1.trans hz2
              have hz := Eq_any (y.c.nodes + 1) y.k y.k y.n y.n y.t y.t y.c y.c _ _ up1 fp1 ul1 uc1 fl1 fc1 Z2 (by omega) (HU11.out.next hz2) (HF11.out.next hz2)
              rw [eqB_self] at hz
              obtain ⟨q0, q1, q2, q3, _⟩ := box4 (hz2.heap HBB6.out)
              obtain ⟨r0, r1, r2, r3, _⟩ := box4 (hz2.heap HBB7.out)
              have HZ2 := Lib.hid hz2
              clear hz1 hz2
              go_wp2_with fail
              refine hz.mono ?_
              clear hz q0 q1 q2 q3 r0 r1 r2 r3
              rintro e Z3 ⟨rfl, hz3⟩
              have hz3 := HZ2.out.trans hz3
              have hz := Eq_any (y.c.nodes + 1) y.k y.k y.n y.n y.t y.t y.c y.c _ _ yp1 fp1 yl1 yc1 fl1 fc1 Z3 (by omega) (HY11.out.next hz3) (HF11.out.next hz3)
              rw [eqB_self] at hz
              obtain ⟨q0, q1, q2, q3, _⟩ := box4 (hz3.heap HBB11.out)
              obtain ⟨r0, r1, r2, r3, _⟩ := box4 (hz3.heap HBB7.out)
              have HZ3 := Lib.hid hz3
              clear hz3 HZ2
              go_wp2_with fail
              refine hz.mono ?_
              clear hz q0 q1 q2 q3 r0 r1 r2 r3
              rintro e Z4 ⟨rfl, hz4⟩
              have HEND := Lib.hid ((HFIN.out.trans HZ3.out).trans hz4)
              clear hz4
              go_wp2_with fail
              go_roundg (sl - (j + 1))
              case measure => have := HJ.out; omega
              case rel => exact ⟨j + 1, by have := HJ.out; omega, by go_num, by omega, HEND.out⟩
      · go_wp2_with fail
        go_ret
        exact ⟨rfl, HK.out⟩
    · go_wp2_with fail
      go_ret
      exact ⟨rfl, HK.out⟩
end Go.Proofs.Ytccoihmibkpedaa
