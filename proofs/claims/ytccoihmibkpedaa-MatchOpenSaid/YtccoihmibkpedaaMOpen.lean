/-
  espalierlaw24.MatchOpen: its walk.
-/
import Derived.Test.YtccoihmibkpedaaMOpenP

import Derived.Test.YtccoihmibkpedaaStands

import Derived.Test.YtccoihmibkpedaaMBeg

import Derived.Deep.RegionHeld3

set_option linter.unusedVariables false

set_option linter.unusedSimpArgs false

namespace Go.Proofs.Ytccoihmibkpedaa

open Go.RowKit

attribute [local go_sem] Oper.semAt_some

/-- What stays, all along: the three trees in boxes, the path. -/
structure MO (w W : World) (p t u : Nd) (path : List Int) (cp tp up pp : Option Addr) (cl cc tl tc ul uc pl : Nat) : Prop where
  np : NodeAt W (fun b => b < W.heap.size) w.heap.size 0 p.k p.n p.t p.c cp cl cc
  nt : NodeAt W (fun b => b < W.heap.size) (w.heap.size + 1) 0 t.k t.n t.t t.c tp tl tc
  nu : NodeAt W (fun b => b < W.heap.size) (w.heap.size + 1 + 1) 0 u.k u.n u.t u.c up ul uc
  pa : Ints W (fun b => b < W.heap.size) path pp pl
  keeps : Keeps (fun _ => False) w W
section

variable {w W W' : World} {p t u : Nd} {path : List Int} {cp tp up pp : Option Addr} {cl cc tl tc ul uc pl : Nat}

theorem MO.next (h : MO w W p t u path cp tp up pp cl cc tl tc ul uc pl) (hk : Keeps (fun _ => False) W W') : MO w W' p t u path cp tp up pp cl cc tl tc ul uc pl :=
  ⟨h.np.nexT hk, h.nt.nexT hk, h.nu.nexT hk, (h.pa.keeps hk (fun _ _ h => h)).top, h.keeps.trans hk⟩
theorem MO.start {A A' A2 A3 : Nat → Prop} (h : Tv w A p.k p.t p.c cp cl cc) (h' : Tv w A' t.k t.t t.c tp tl tc) (hu : Tv w A2 u.k u.t u.c up ul uc) (hp : Ints w A3 path pp pl) :
    MO w (((w.alloc (.cells (four p.k p.n p.t cp cl cc) T)).alloc (.cells (four t.k t.n t.t tp tl tc) T)).alloc (.cells (four u.k u.n u.t up ul uc) T)) p t u path cp tp up pp cl cc tl tc ul uc pl := by
  obtain ⟨W1, hW1⟩ : ∃ W1, W1 = w.alloc (.cells (four p.k p.n p.t cp cl cc) T) := ⟨_, rfl⟩
  obtain ⟨W2, hW2⟩ : ∃ W2, W2 = W1.alloc (.cells (four t.k t.n t.t tp tl tc) T) := ⟨_, rfl⟩
  obtain ⟨W3, hW3⟩ : ∃ W3, W3 = W2.alloc (.cells (four u.k u.n u.t up ul uc) T) := ⟨_, rfl⟩
  have hk1 : Keeps (fun _ => False) w W1 := by rw [hW1]; exact (Keeps.refl _ w).alloc _
  have hk2 : Keeps (fun _ => False) W1 W2 := by rw [hW2]; exact (Keeps.refl _ W1).alloc _
  have hk3 : Keeps (fun _ => False) W2 W3 := by rw [hW3]; exact (Keeps.refl _ W2).alloc _
  have s1 : W1.heap.size = w.heap.size + 1 := by rw [hW1]; simp
  have s2 : W2.heap.size = w.heap.size + 1 + 1 := by rw [hW2]; simp [s1]
  have hb1 : W1.heap[w.heap.size]? = some (.cells (four p.k p.n p.t cp cl cc) T (0, 0)) := by rw [hW1]; exact heap_alloc_new _ _
  have hb2 : W2.heap[w.heap.size + 1]? = some (.cells (four t.k t.n t.t tp tl tc) T (0, 0)) := by rw [hW2, ← s1]; exact heap_alloc_new _ _
  have hb3 : W3.heap[w.heap.size + 1 + 1]? = some (.cells (four u.k u.n u.t up ul uc) T (0, 0)) := by rw [hW3, ← s2]; exact heap_alloc_new _ _
  rw [← hW1, ← hW2, ← hW3]
  exact ⟨((h.next hk1).boxedAt hb1).nexT (hk2.trans hk3), (((h'.next hk1).next hk2).boxedAt hb2).nexT hk3, ((((hu.next hk1).next hk2).next hk3).boxedAt hb3).top, (hp.keeps ((hk1.trans hk2).trans hk3) (fun _ _ h => h)).top, (hk1.trans hk2).trans hk3⟩
theorem MO.cells (h : MO w W p t u path cp tp up pp cl cc tl tc ul uc pl) :
    (W.cell? ⟨w.heap.size, 0, none⟩ = some (.string p.k) ∧ W.cell? ⟨w.heap.size, 1, none⟩ = some (.int .i64 p.n) ∧ W.cell? ⟨w.heap.size, 2, none⟩ = some (.string p.t) ∧ W.cell? ⟨w.heap.size, 3, none⟩ = some (.slice cp cl cc)) ∧
    (W.cell? ⟨w.heap.size + 1, 0, none⟩ = some (.string t.k) ∧ W.cell? ⟨w.heap.size + 1, 1, none⟩ = some (.int .i64 t.n) ∧ W.cell? ⟨w.heap.size + 1, 2, none⟩ = some (.string t.t) ∧ W.cell? ⟨w.heap.size + 1, 3, none⟩ = some (.slice tp tl tc)) ∧
    (W.cell? ⟨w.heap.size + 1 + 1, 0, none⟩ = some (.string u.k) ∧ W.cell? ⟨w.heap.size + 1 + 1, 1, none⟩ = some (.int .i64 u.n) ∧ W.cell? ⟨w.heap.size + 1 + 1, 2, none⟩ = some (.string u.t) ∧ W.cell? ⟨w.heap.size + 1 + 1, 3, none⟩ = some (.slice up ul uc)) :=
  ⟨⟨h.np.c0, h.np.c1, h.np.c2, h.np.c3⟩, ⟨h.nt.c0, h.nt.c1, h.nt.c2, h.nt.c3⟩, h.nu.c0, h.nu.c1, h.nu.c2, h.nu.c3⟩
end

set_option maxRecDepth 100000 in
set_option maxHeartbeats 6400000 in
theorem matchOpen_any (p t u : Nd) (path : List Int) (cp tp up pp : Option Addr) (cl cc tl tc ul uc pl pc : Nat) (A A' A2 A3 : Nat → Prop) (w : World) (h : Tv w A p.k p.t p.c cp cl cc) (h' : Tv w A' t.k t.t t.c tp tl tc) (hu : Tv w A2 u.k u.t u.c up ul uc) (hp : Ints w A3 path pp pl) :
    Calls Try.prog 7 #[tv p.k p.n p.t cp cl cc, tv t.k t.n t.t tp tl tc, tv u.k u.n u.t up ul uc, .slice pp pl pc] w fun e w' => e = .returned (.bool true) ∧ Keeps (fun _ => False) w w' := by
  have hG := MO.start (p := p) (t := t) (u := u) h h' hu hp
  clear h h' hu hp
  go_enter Try.func7, Try.ntmps7
  go_wp2_with fail
  refine (mbegun_any _).mono ?_
  rintro e W1 ⟨rfl, hk⟩
  have hG := hG.next hk
  clear hk
  have hz := mlight_any 0 p t [] cp tp none cl cc tl tc 0 0 _ _ (fun _ => False) W1 hG.np.tv hG.nt.tv rfl (by omega) (by omega)
  obtain ⟨⟨p0, p1, p2, p3⟩, ⟨t0, t1, t2, t3⟩, u0, u1, u2, u3⟩ := hG.cells
  obtain ⟨lt, hlt⟩ : ∃ v, mlightF p t [] = v := ⟨_, rfl⟩
  rw [hlt] at hz
  clear hlt
  go_wp2_with fail
  refine hz.mono ?_
  clear hz p0 p1 p2 p3 t0 t1 t2 t3 u0 u1 u2 u3
  rintro e W2 ⟨rfl, hk⟩
  have hG := hG.next hk
  clear hk
  cases lt with
  | false =>
    go_wp2_with fail
    go_ret
    exact ⟨rfl, hG.keeps⟩
  | true =>
    have hz := mlight_any 0 u u [] up up none ul uc ul uc 0 0 _ _ (fun _ => False) W2 hG.nu.tv hG.nu.tv rfl (by omega) (by omega)
    obtain ⟨⟨p0, p1, p2, p3⟩, ⟨t0, t1, t2, t3⟩, u0, u1, u2, u3⟩ := hG.cells
    obtain ⟨lt, hlt⟩ : ∃ v, mlightF u u [] = v := ⟨_, rfl⟩
    rw [hlt] at hz
    clear hlt
    go_wp2_with fail
    refine hz.mono ?_
    clear hz p0 p1 p2 p3 t0 t1 t2 t3 u0 u1 u2 u3
    rintro e W3 ⟨rfl, hk⟩
    have hG := hG.next hk
    clear hk
    cases lt with
    | false =>
      go_wp2_with fail
      go_ret
      exact ⟨rfl, hG.keeps⟩
    | true =>
      have hz := Fits_any p t _ _ cl cc tl tc _ _ _ hG.np.tv hG.nt.tv
      obtain ⟨⟨p0, p1, p2, p3⟩, ⟨t0, t1, t2, t3⟩, u0, u1, u2, u3⟩ := hG.cells
      go_wp2_with fail
      refine hz.mono ?_
      clear hz p0 p1 p2 p3 t0 t1 t2 t3 u0 u1 u2 u3
      rintro e W4 ⟨lp, ll, lc, xs, blks, rfl, hI, hk⟩
      have hG := hG.next hk
      clear hk
      cases hft : fitsF p t with
      | none =>
        have h0 : (fitsF p t).isSome = false := by rw [hft]; rfl
        have hll : ll = 0 := by rw [hI.length]; simp [fitsB, hft]
        subst hll
        rw [Option.isSome_none]
        clear hft h0 hI
        go_wp2_with fail
        go_ret
        exact ⟨rfl, hG.keeps⟩
      | some L =>
        rw [Option.isSome_some]
        have hLB : fitsB p t = L := by simp [fitsB, hft]
        rw [hLB] at hI
        have hpm : pmayF p = 0 := (fits_fill hft).2
        have hft2 : mayF t = 0 ∧ (fit1 p.k p.n p.t p.c t []).2 = true ∧ (fit1 p.k p.n p.t p.c t []).1 = L := by
          unfold fitsF at hft
          split at hft
          · rename_i hh
            simp only [Option.some.injEq] at hft
            exact ⟨hh.2.1, hh.2.2, hft⟩
          · simp at hft
        have HFT := Lib.hid hft2
        have HPM := Lib.hid hpm
        obtain ⟨hlc1, hlc2⟩ := hI.cap
        have hL := hI.at_.top
        clear hft hLB hpm hft2 hI
        have hz := uses_any kQ (p.c.nodes + 1) p.k p.n p.t p.c cp cl cc _ W4 (by omega) hG.np.tv
        obtain ⟨us, hus⟩ : ∃ v, usesF kQ p.k p.c = v := ⟨_, rfl⟩
        rw [hus] at hz
        have HUS := Lib.hid hus
        clear hus
        obtain ⟨⟨p0, p1, p2, p3⟩, ⟨t0, t1, t2, t3⟩, u0, u1, u2, u3⟩ := hG.cells
        go_wp2_with fail
        refine hz.mono ?_
        clear hz p0 p1 p2 p3 t0 t1 t2 t3 u0 u1 u2 u3
        rintro e W5 ⟨rfl, hk⟩
        have hG := hG.next hk
        have hL := (hL.next hk).top
        clear hk
        cases us with
        | true =>
          go_wp2_with fail
          go_ret
          exact ⟨rfl, hG.keeps⟩
        | false =>
          have hkq : szok kQ e0 := ⟨by decide, by decide⟩
          have hz := Put_any p (lf kQ) path cp none cl cc 0 0 _ _ _ pp pl pc W5 hG.np.tv hG.pa (tvLf W5 kQ hkq)
          obtain ⟨⟨q, qe⟩, hq⟩ : ∃ r, putF p path (lf kQ) = r := ⟨_, rfl⟩
          rw [hq] at hz
          have HQ := Lib.hid hq
          clear hq hkq
          obtain ⟨⟨p0, p1, p2, p3⟩, ⟨t0, t1, t2, t3⟩, u0, u1, u2, u3⟩ := hG.cells
          go_wp2_with fail
          refine (hz.mono fun _ _ h => TreeRes.out2 h).mono ?_
          clear hz p0 p1 p2 p3 t0 t1 t2 t3 u0 u1 u2 u3
          rintro e W6 ⟨qp, ql, qc, Aq, rfl, hq, hAq, hk⟩
          have hk6 := (Keeps.refl (fun _ => False) W6).alloc (.cells (four q.k q.n q.t qp ql qc) T)
          have hG := (hG.next hk).next hk6
          have hL := ((hL.next hk).next hk6).top
          have hQ := ((hq.next hk6).boxedAt (n := q.n) (heap_alloc_new W6 _)).top
          have hz := At_any t path tp tl tc _ _ pp pl pc _ hG.nt.tv hG.pa
          obtain ⟨⟨x, xe⟩, hx⟩ : ∃ r, atF t path = r := ⟨_, rfl⟩
          rw [hx] at hz
          have HX := Lib.hid hx
          obtain ⟨qb, hqb⟩ : ∃ b, b = W6.heap.size := ⟨_, rfl⟩
          rw [← hqb] at hQ
          have HQB := Lib.hid hqb
          clear hx hk hk6 hq hAq hqb
          obtain ⟨⟨p0, p1, p2, p3⟩, ⟨t0, t1, t2, t3⟩, u0, u1, u2, u3⟩ := hG.cells
          go_wp2_with fail
          rw [← HQB.out]
          refine (hz.mono fun _ _ h => TreeRes.out2 h).mono ?_
          clear hz p0 p1 p2 p3 t0 t1 t2 t3 u0 u1 u2 u3 HQB
          rintro e W7 ⟨xp, xl, xc, Ax, rfl, hx, hAx, hk⟩
          have hk7 := (Keeps.refl (fun _ => False) W7).alloc (.cells (four x.k x.n x.t xp xl xc) T)
          have hG := (hG.next hk).next hk7
          have hL := ((hL.next hk).next hk7).top
          have hQ := (hQ.nexT hk).nexT hk7
          have hX := ((hx.next hk7).boxedAt (n := x.n) (heap_alloc_new W7 _)).top
          obtain ⟨xb, hxb⟩ : ∃ b, b = W7.heap.size := ⟨_, rfl⟩
          rw [← hxb] at hX
          obtain ⟨V, hV⟩ : ∃ V, V = W7.alloc (.cells (four x.k x.n x.t xp xl xc) T) := ⟨_, rfl⟩
          rw [← hV] at hG hL hQ hX
          clear hk hk7 hx hAx
          go_upto_region 12 with fail
          rw [← hxb, ← hV]
          clear hxb hV
          by_cases hqe : qe = 0
          · subst hqe
            by_cases hxe : xe = 0
            · subst hxe
              obtain ⟨⟨v, hv⟩, hqs, hqq⟩ := put_zero HQ.out
              have hxx := at_zero HX.out
              obtain ⟨htm, hff, hfl⟩ := HFT.out
              obtain ⟨m, hm, hmp⟩ := open_law (s := x) HPM.out htm hff HUS.out hv hqs t (put_self path t x hxx).symm htm
              rw [← hqq] at hm
              rw [hfl] at hmp
              have hz := Fits_any q t _ _ ql qc tl tc _ _ _ hQ.tv hG.nt.tv
              rw [show fitsB q t = m by simp [fitsB, hm], show (fitsF q t).isSome = true by simp [hm]] at hz
              have HLAW := Lib.hid (fun s => open_law (s := s) HPM.out htm hff HUS.out hv hqs)
              have HQQ := Lib.hid hqq
              have HMP := Lib.hid hmp
              have HTM := Lib.hid htm
              clear hv hqs hqq hxx hff hfl hm hmp htm
              obtain ⟨⟨p0, p1, p2, p3⟩, ⟨t0, t1, t2, t3⟩, u0, u1, u2, u3⟩ := hG.cells
              have q0 := hQ.c0
              have q1 := hQ.c1
              have q2 := hQ.c2
              have q3 := hQ.c3
              go_wp2_with fail
              refine hz.mono ?_
              clear hz p0 p1 p2 p3 t0 t1 t2 t3 u0 u1 u2 u3 q0 q1 q2 q3
              rintro e W8 ⟨mp, ml, mc, xs', blks', rfl, hI, hk⟩
              have hG := hG.next hk
              have hL := (hL.next hk).top
              have hQ := hQ.nexT hk
              have hX := hX.nexT hk
              obtain ⟨hmc1, hmc2⟩ := hI.cap
              have hMA := hI.at_.top
              have hml : m.length = ml := hMA.len
              have HG := Lib.hid hG
              have HLA := Lib.hid hL
              have HQN := Lib.hid hQ
              have HXN := Lib.hid hX
              have HMA := Lib.hid hMA
              have HML := Lib.hid hml
              clear hk hI hG hL hQ hX hMA hml
              go_wp2_with fail
              go_loopg [17] ml (fun r i W => ∃ j : Nat, j + r = ml ∧ i = .int .i64 j ∧ Keeps (fun _ => False) W8 W)
              case atStart => exact ⟨0, by omega, rfl, Keeps.refl _ _⟩
              case round =>
                obtain ⟨j, hjm, rfl, hkr⟩ := hrel
                have HJ := Lib.hid hjm
                have HKR := Lib.hid hkr
                have hj0 : (0 : Int) ≤ (j : Int) := Int.natCast_nonneg _
                clear hjm hkr
                by_cases hlt : j < ml
                · obtain ⟨⟨nm, y⟩, he⟩ : ∃ e, m[j]? = some e := ⟨_, List.getElem?_eq_getElem (by have := HML.out; omega)⟩
                  obtain ⟨mb, mo, hmp, _, _⟩ := HMA.out.addr (by omega)
                  subst hmp
                  obtain ⟨_, m0, _, _, yp, yl, yc, hN⟩ := (HMA.out.next HKR.out).at_ he
                  have hor := HMP.out nm y (List.mem_of_getElem? he)
                  have hi1 : (j : Int) < (ml : Int) := by omega
                  have y0 := hN.c0
                  have y1 := hN.c1
                  have y2 := hN.c2
                  have y3 := hN.c3
                  clear he
                  rcases hor with ⟨rfl, rfl⟩ | ⟨hne, hmem⟩
                  · have hX := HXN.out.nexT HKR.out
                    have x0 := hX.c0
                    have x1 := hX.c1
                    have x2 := hX.c2
                    have x3 := hX.c3
                    have hdr : Keeps (fun _ => False) wr wr.drew := (Keeps.refl _ wr).drew
                    have hz := Eq_any (y.c.nodes + 1) y.k y.k y.n y.n y.t y.t y.c y.c _ _ _ _ _ _ _ _ wr.drew (by omega) (hN.tv.next hdr) (hX.tv.next hdr)
                    rw [eqB_self] at hz
                    clear hN hX hdr
                    go_wp2_with fail
                    go_still_tail 6, (by kernel_rfl)
                    change wpList _ _ _ _ _ wr.drew
                    go_wp2_with fail
                    refine hz.mono ?_
                    clear hz y0 y1 y2 y3 x0 x1 x2 x3 m0
                    rintro e W9 ⟨rfl, hk9⟩
                    have HK9 := Lib.hid (HKR.out.trans (((Keeps.refl _ wr).drew).trans hk9))
                    clear hk9
                    go_wp2_with fail
                    go_roundg (gk - 1)
                    case measure => have := HJ.out; omega
                    case rel => exact ⟨j + 1, by have := HJ.out; omega, by go_num, HK9.out⟩
                  · have hnm : (nm.toList == [113, 48]) = false := by
                      have := txt_ne hne
                      rwa [show nQ.toList = [113, 48] by rw [ByteArray.toList_eq]] at this
                    have hz := stands_any L nm y lp yp ll lc yl yc _ _ wr (HLA.out.next HKR.out) hlc1 hlc2 hN.tv
                    rw [show standsB L nm y = true by simp [standsB, hmem]] at hz
                    clear hne hmem hN
                    go_wp2_with fail
                    refine hz.mono ?_
                    clear hz y0 y1 y2 y3 m0
                    rintro e W9 ⟨rfl, hk9⟩
                    have HK9 := Lib.hid (HKR.out.trans hk9)
                    clear hk9
                    go_wp2_with fail
                    go_roundg (gk - 1)
                    case measure => have := HJ.out; omega
                    case rel => exact ⟨j + 1, by have := HJ.out; omega, by go_num, HK9.out⟩
                · have hG := HG.out.next HKR.out
                  have hQ := HQN.out.nexT HKR.out
                  obtain ⟨V9, hV9⟩ : ∃ V, V = wr := ⟨_, rfl⟩
                  subst hV9
                  clear HKR HG HQN HXN HMA HML HLA HMP HJ
                  go_upto_region 25 with fail
                  go_cut [18, 19] from 20 (fun v v' W => ∃ ap ac, v = .slice ap 1 ac ∧ v' = .bool true ∧ BindsAt W (fun b => b < W.heap.size) [(nQ, t)] ap 1 ∧ 1 ≤ ac ∧ ac ≤ 9223372036854775807 ∧ Keeps (fun _ => False) V9 W)
                  case first =>
                    have HT : Hid (∀ W, Keeps (fun _ => False) V9 W → W.cell? ⟨w.heap.size + 1, 0, none⟩ = some (.string t.k) ∧ W.cell? ⟨w.heap.size + 1, 1, none⟩ = some (.int .i64 t.n) ∧ W.cell? ⟨w.heap.size + 1, 2, none⟩ = some (.string t.t) ∧ W.cell? ⟨w.heap.size + 1, 3, none⟩ = some (.slice tp tl tc)) := Lib.hid fun W hk => (hG.next hk).cells.2.1
                    have HFT2 : Hid (∀ W, Keeps (fun _ => False) V9 W → Calls Try.prog 14 #[tv kQ 0 e0 none 0 0, tv t.k t.n t.t tp tl tc] W (FitsR [(nQ, t)] true W)) := Lib.hid fun W hk => by
                      have hz := Fits_any (lf kQ) t none _ 0 0 tl tc _ _ W (tvLf W kQ ⟨by decide, by decide⟩) (hG.next hk).nt.tv
                      rwa [show fitsB (lf kQ) t = [(nQ, t)] by simp [fitsB, open_any HTM.out], show (fitsF (lf kQ) t).isSome = true by simp [open_any HTM.out]] at hz
                    have hk : Keeps (fun _ => False) V9 V9 := Keeps.refl _ _
                    clear hG hQ
                    go_region_held3 (fun W' => W'.cell? ⟨w.heap.size + 1, 0, none⟩ = some (.string t.k) ∧ W'.cell? ⟨w.heap.size + 1, 1, none⟩ = some (.int .i64 t.n) ∧ W'.cell? ⟨w.heap.size + 1, 2, none⟩ = some (.string t.t) ∧ W'.cell? ⟨w.heap.size + 1, 3, none⟩ = some (.slice tp tl tc)) (exact HT.out _ (by repeat' (first | exact hk | refine Keeps.drew ?_ | refine Keeps.alloc ?_ _))) (first
                      | ((go_simp; go_at_call 37; (with_reducible refine (of_any kQ none 0 0 _).mono ?_); rintro e W1 ⟨rfl, hkn⟩; have hk := Keeps.trans (w := V9) (by repeat' (first | exact hk | refine Keeps.drew ?_ | refine Keeps.alloc ?_ _)) hkn))
                      | ((go_simp; go_at_call 14; (with_reducible refine (HFT2.out _ hk).mono ?_); rintro e W1 ⟨lq, lql, lqc, xq, bq, rfl, hIq, hkn⟩; have hk := Keeps.trans (w := V9) (by repeat' (first | exact hk | refine Keeps.drew ?_ | refine Keeps.alloc ?_ _)) hkn)))
                    all_goals
                      go_wp2_with fail
                      go_meet
                      case rel =>
                        have hl1 : lql = 1 := hIq.length
                        subst hl1
                        exact ⟨_, _, rfl, rfl, hIq.at_.top, hIq.cap.1, hIq.cap.2, hk⟩
                  case rest =>
                    obtain ⟨Wa, hWa⟩ : ∃ V, V = wc := ⟨_, rfl⟩
                    subst hWa
                    obtain ⟨ap, ac, rfl, rfl, hAB, hac1, hac2, hka⟩ := hcut
                    have hG := hG.next hka
                    have hQ := hQ.nexT hka
                    obtain ⟨ab, ao, rfl, _, _⟩ := hAB.addr (by omega)
                    obtain ⟨_, _, _, _, zp, zl, zc, hN⟩ := hAB.at_ (i := 0) (nm := nQ) (x := t) rfl
                    have z0 := hN.c0
                    have z1 := hN.c1
                    have z2 := hN.c2
                    have z3 := hN.c3
                    simp only [Nat.zero_mul, Nat.add_zero] at z0 z1 z2 z3
                    obtain ⟨⟨p0, p1, p2, p3⟩, ⟨t0, t1, t2, t3⟩, u0, u1, u2, u3⟩ := hG.cells
                    have hdr : Keeps (fun _ => False) Wa Wa.drew := (Keeps.refl _ Wa).drew
                    have hz := Eq_any (t.c.nodes + 1) t.k t.k t.n t.n t.t t.t t.c t.c _ _ _ _ _ _ _ _ Wa.drew (by omega) (hN.tv.next hdr) (hG.nt.tv.next hdr)
                    rw [eqB_self] at hz
                    clear hN hAB hka hdr
                    go_wp2_with fail
                    go_still_tail 13, (by kernel_rfl)
                    change wpList _ _ _ _ _ Wa.drew
                    go_wp2_with fail
                    refine hz.mono ?_
                    clear hz z0 z1 z2 z3 p0 p1 p2 p3 t0 t1 t2 t3 u0 u1 u2 u3
                    rintro e Wb ⟨rfl, hkb⟩
                    have hkb := ((Keeps.refl (fun _ => False) Wa).drew).trans hkb
                    have hG := hG.next hkb
                    have hQ := hQ.nexT hkb
                    clear hkb
                    have hz := Put_any t u path tp up tl tc ul uc _ _ _ pp pl pc Wb hG.nt.tv hG.pa hG.nu.tv
                    obtain ⟨⟨x2, g⟩, hx2⟩ : ∃ r, putF t path u = r := ⟨_, rfl⟩
                    rw [hx2] at hz
                    have HX2 := Lib.hid hx2
                    clear hx2
                    obtain ⟨⟨p0, p1, p2, p3⟩, ⟨t0, t1, t2, t3⟩, u0, u1, u2, u3⟩ := hG.cells
                    go_wp2_with fail
                    refine (hz.mono fun _ _ h => TreeRes.out2 h).mono ?_
                    clear hz p0 p1 p2 p3 t0 t1 t2 t3 u0 u1 u2 u3
                    rintro e Wc ⟨wp, wl, wc', Aw, rfl, hw, hAw, hk⟩
                    have hk7 := (Keeps.refl (fun _ => False) Wc).alloc (.cells (four x2.k x2.n x2.t wp wl wc') T)
                    have hG := (hG.next hk).next hk7
                    have hQ := (hQ.nexT hk).nexT hk7
                    have hW := ((hw.next hk7).boxedAt (n := x2.n) (heap_alloc_new Wc _)).top
                    obtain ⟨wb, hwb⟩ : ∃ b, b = Wc.heap.size := ⟨_, rfl⟩
                    rw [← hwb] at hW
                    obtain ⟨Vc, hVc⟩ : ∃ V, V = Wc.alloc (.cells (four x2.k x2.n x2.t wp wl wc') T) := ⟨_, rfl⟩
                    rw [← hVc] at hG hQ hW
                    clear hk hk7 hw hAw
                    go_upto_region 29 with fail
                    rw [← hwb, ← hVc]
                    clear hwb hVc
                    by_cases hg0 : g = 0
                    · subst hg0
                      have hz := May_any x2 wp wl wc' _ Vc hW.tv
                      obtain ⟨mw, hmw⟩ : ∃ r, mayF x2 = r := ⟨_, rfl⟩
                      rw [hmw] at hz
                      have HMW := Lib.hid hmw
                      have w0 := hW.c0
                      have w1 := hW.c1
                      have w2 := hW.c2
                      have w3 := hW.c3
                      clear hmw
                      go_wp2_with fail
                      refine hz.mono ?_
                      clear hz w0 w1 w2 w3
                      rintro e Vd ⟨rfl, hk⟩
                      have hG := hG.next hk
                      have hQ := hQ.nexT hk
                      have hW := hW.nexT hk
                      clear hk
                      by_cases hm0 : mw = 0
                      · subst hm0
                        obtain ⟨_, _, hxx⟩ := put_zero HX2.out
                        obtain ⟨m2, hm2, _⟩ := HLAW.out u x2 hxx HMW.out
                        rw [← HQQ.out] at hm2
                        have hz := Fits_any q x2 _ _ ql qc wl wc' _ _ _ hQ.tv hW.tv
                        rw [show (fitsF q x2).isSome = true by simp [hm2]] at hz
                        have w0 := hW.c0
                        have w1 := hW.c1
                        have w2 := hW.c2
                        have w3 := hW.c3
                        have q0 := hQ.c0
                        have q1 := hQ.c1
                        have q2 := hQ.c2
                        have q3 := hQ.c3
                        clear hxx hm2
                        go_wp2_with fail
                        refine hz.mono ?_
                        clear hz w0 w1 w2 w3 q0 q1 q2 q3
                        rintro e Ve ⟨zp, zl, zc, zx, zb, rfl, _, hk⟩
                        go_wp2_with fail
                        go_ret
                        exact ⟨rfl, hG.keeps.trans hk⟩
                      · have h0 : (mw != 0) = true := by simpa using hm0
                        go_wp2_with fail
                        go_ret
                        exact ⟨rfl, hG.keeps⟩
                    · have h0 : (g != 0) = true := by simpa using hg0
                      go_wp2_with fail
                      go_ret
                      exact ⟨rfl, hG.keeps⟩
            · have h0 : (xe != 0) = true := by simpa using hxe
              go_wp2_with fail
              go_ret
              exact ⟨rfl, hG.keeps⟩
          · have h0 : (qe != 0) = true := by simpa using hqe
            go_wp2_with fail
            go_ret
            exact ⟨rfl, hG.keeps⟩
end Go.Proofs.Ytccoihmibkpedaa
