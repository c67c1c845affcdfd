/-
  espalierlaw24.MatchBack: its walk.
-/
import Derived.Test.YtccoihmibkpedaaPkG

import Derived.Test.YtccoihmibkpedaaMBeg

import Derived.Test.YtccoihmibkpedaaPkF

import Derived.BigFrameIn

set_option linter.unusedVariables false

set_option linter.unusedSimpArgs false

namespace Go.Proofs.Ytccoihmibkpedaa

open Go.RowKit

attribute [local go_sem] Oper.semAt_some

/-- What stays, all along: the pattern and the tree in boxes, the bounds, the result's box. -/
structure MG (w W : World) (p t : Nd) (bs : List Bind) (cp tp bp : Option Addr) (cl cc tl tc bl : Nat) : Prop where
  np : NodeAt W (fun b => b < W.heap.size) w.heap.size 0 p.k p.n p.t p.c cp cl cc
  nt : NodeAt W (fun b => b < W.heap.size) (w.heap.size + 1) 0 t.k t.n t.t t.c tp tl tc
  bb : BindsAt W (fun b => b < W.heap.size) bs bp bl
  res : W.heap[w.heap.size + 1 + 1]? = some (.cells #[.bool false] 4 (0, 0))
  keeps : Keeps (fun _ => False) w W
section

variable {w W W' : World} {p t : Nd} {bs : List Bind} {cp tp bp : Option Addr} {cl cc tl tc bl : Nat}

theorem MG.next (h : MG w W p t bs cp tp bp cl cc tl tc bl) (hk : Keeps (fun _ => False) W W') : MG w W' p t bs cp tp bp cl cc tl tc bl :=
  ⟨h.np.nexT hk, h.nt.nexT hk, (h.bb.next hk).top, (hk.block _ (heap_lt h.res) (fun h => h)).trans h.res, h.keeps.trans hk⟩
theorem MG.start {A A' A2 : Nat → Prop} (h : Tv w A p.k p.t p.c cp cl cc) (h' : Tv w A' t.k t.t t.c tp tl tc) (hB : BindsAt w A2 bs bp bl) :
    MG w (((w.alloc (.cells (four p.k p.n p.t cp cl cc) T)).alloc (.cells (four t.k t.n t.t tp tl tc) T)).alloc (.cells #[.bool false] 4)) p t bs cp tp bp cl cc tl tc bl := by
  obtain ⟨W1, hW1⟩ : ∃ W1, W1 = w.alloc (.cells (four p.k p.n p.t cp cl cc) T) := ⟨_, rfl⟩
  obtain ⟨W2, hW2⟩ : ∃ W2, W2 = W1.alloc (.cells (four t.k t.n t.t tp tl tc) T) := ⟨_, rfl⟩
  have hk1 : Keeps (fun _ => False) w W1 := by rw [hW1]; exact (Keeps.refl _ w).alloc _
  have hk2 : Keeps (fun _ => False) W1 W2 := by rw [hW2]; exact (Keeps.refl _ W1).alloc _
  have hk3 : Keeps (fun _ => False) W2 (W2.alloc (.cells #[.bool false] 4)) := (Keeps.refl _ W2).alloc _
  have s1 : W1.heap.size = w.heap.size + 1 := by rw [hW1]; simp
  have s2 : W2.heap.size = w.heap.size + 1 + 1 := by rw [hW2]; simp [s1]
  have hb1 : W1.heap[w.heap.size]? = some (.cells (four p.k p.n p.t cp cl cc) T (0, 0)) := by rw [hW1]; exact heap_alloc_new _ _
  have hb2 : W2.heap[w.heap.size + 1]? = some (.cells (four t.k t.n t.t tp tl tc) T (0, 0)) := by rw [hW2, ← s1]; exact heap_alloc_new _ _
  rw [← hW1, ← hW2]
  refine ⟨((h.next hk1).boxedAt hb1).nexT (hk2.trans hk3), (((h'.next hk1).next hk2).boxedAt hb2).nexT hk3, (((hB.next hk1).next hk2).next hk3).top, ?_, (hk1.trans hk2).trans hk3⟩
  rw [← s2]; exact heap_alloc_new _ _
theorem MG.cells (h : MG w W p t bs cp tp bp cl cc tl tc bl) :
    (W.cell? ⟨w.heap.size, 0, none⟩ = some (.string p.k) ∧ W.cell? ⟨w.heap.size, 1, none⟩ = some (.int .i64 p.n) ∧ W.cell? ⟨w.heap.size, 2, none⟩ = some (.string p.t) ∧ W.cell? ⟨w.heap.size, 3, none⟩ = some (.slice cp cl cc)) ∧
    (W.cell? ⟨w.heap.size + 1, 0, none⟩ = some (.string t.k) ∧ W.cell? ⟨w.heap.size + 1, 1, none⟩ = some (.int .i64 t.n) ∧ W.cell? ⟨w.heap.size + 1, 2, none⟩ = some (.string t.t) ∧ W.cell? ⟨w.heap.size + 1, 3, none⟩ = some (.slice tp tl tc)) ∧
    W.cell? ⟨w.heap.size + 1 + 1, 0, none⟩ = some (.bool false) ∧ W.frozen? ⟨w.heap.size + 1 + 1, 0, none⟩ = false :=
  ⟨⟨h.np.c0, h.np.c1, h.np.c2, h.np.c3⟩, ⟨h.nt.c0, h.nt.c1, h.nt.c2, h.nt.c3⟩, by simp [World.cell?, h.res], by simp [World.frozen?, h.res]⟩
/-- It returns true: the result's box is written. -/
theorem MG.done (h : MG w W p t bs cp tp bp cl cc tl tc bl) : (W.setCell ⟨w.heap.size + 1 + 1, 0, none⟩ (.bool true)).cell? ⟨w.heap.size + 1 + 1, 0, none⟩ = some (.bool true) ∧ Keeps (fun _ => False) w (W.setCell ⟨w.heap.size + 1 + 1, 0, none⟩ (.bool true)) := by
  refine ⟨by simp only [World.cell?, heap_set h.res]; rfl, ?_⟩
  exact h.keeps.trans' ((Keeps.refl (fun b => b = w.heap.size + 1 + 1) W).setCell (p := ⟨w.heap.size + 1 + 1, 0, none⟩) (fun _ => rfl) _) (fun b hb hl => by omega)
end

set_option maxRecDepth 100000 in
set_option maxHeartbeats 6400000 in
theorem matchBack_any (p t : Nd) (bs : List Bind) (cp tp bp : Option Addr) (cl cc tl tc bl bc : Nat) (A A' A2 : Nat → Prop) (w : World) (h : Tv w A p.k p.t p.c cp cl cc) (h' : Tv w A' t.k t.t t.c tp tl tc) (hB : BindsAt w A2 bs bp bl) (hbc : bl ≤ bc) (hbc2 : bc ≤ 9223372036854775807) :
    Calls Try.prog 6 #[tv p.k p.n p.t cp cl cc, tv t.k t.n t.t tp tl tc, .slice bp bl bc] w fun e w' => e = .returned (.bool true) ∧ Keeps (fun _ => False) w w' := by
  have hG := MG.start (p := p) (t := t) h h' hB
  have hbl0 : bs.length = bl := hB.len
  have HBL := Lib.hid hbl0
  clear h h' hB hbl0
  refine calls_marks Try.func6 rfl ?_
  simp only [Try.ntmps6, List.size_toArray, List.length_cons, List.length_nil, Nat.reduceAdd, Nat.reduceSub, Array.replicate_succ, Array.replicate_zero, List.push_toArray, List.append_toArray, List.nil_append, List.cons_append]
  go_wp2_with fail
  refine (mbegun_any _).mono ?_
  rintro e W1 ⟨rfl, hk⟩
  have hG := hG.next hk
  clear hk
  have hz := mlight_any 0 p t bs cp tp bp cl cc tl tc bl bc _ _ _ W1 hG.np.tv hG.nt.tv hG.bb hbc hbc2
  obtain ⟨⟨p0, p1, p2, p3⟩, ⟨t0, t1, t2, t3⟩, r0, r1⟩ := hG.cells
  obtain ⟨lt, hlt⟩ : ∃ v, mlightF p t bs = v := ⟨_, rfl⟩
  rw [hlt] at hz
  go_wp2_with fail
  refine hz.mono ?_
  clear hz p0 p1 p2 p3 t0 t1 t2 t3 r0 r1
  rintro e W2 ⟨rfl, hk⟩
  have hG := hG.next hk
  clear hk
  obtain ⟨⟨p0, p1, p2, p3⟩, ⟨t0, t1, t2, t3⟩, r0, r1⟩ := hG.cells
  cases lt with
  | false =>
    go_wp2_with fail
    obtain ⟨d1, d2⟩ := hG.done
    exact ret_plain (v := .bool true) (by simp [results, Try.results6, go_sem, d1]) ⟨rfl, d2⟩
  | true =>
    have HL : Hid (bl < 50) := by
      show bl < 50
      rw [← HBL.out]
      unfold mlightF at hlt
      simp only [Bool.and_eq_true, decide_eq_true_eq] at hlt
      exact hlt.1.2
    have hbl6 : bl ≤ 1000000 := by have := HL.out; omega
    have hz := Fits_any p t _ _ cl cc tl tc _ _ _ hG.np.tv hG.nt.tv
    have HLT := Lib.hid hlt
    clear hlt
    go_wp2_with fail
    refine hz.mono ?_
    clear hz p0 p1 p2 p3 t0 t1 t2 t3 r0 r1
    rintro e W3 ⟨lp, ll, lc, xs, blks, rfl, hI, hk⟩
    have hG := hG.next hk
    clear hk
    obtain ⟨ok, hok⟩ : ∃ v, (fitsF p t).isSome = v := ⟨_, rfl⟩
    rw [hok]
    have HOK := Lib.hid hok
    clear hok
    go_upto_if 40 with fail
    go_cut [] from 9 (fun W => Keeps (fun _ => False) W3 W)
    case first =>
      cases ok with
      | false =>
        go_wp2_with fail
        go_meet
        case rel => exact Keeps.refl _ _
      | true =>
        obtain ⟨L, hL⟩ : ∃ L, fitsF p t = some L := Option.isSome_iff_exists.1 HOK.out
        have hLB : fitsB p t = L := by simp [fitsB, hL]
        rw [hLB] at hI
        obtain ⟨hfp, hpm⟩ := fits_fill hL
        have hcap := hI.cap
        have hz := Fill_any p L cp lp cl cc ll lc _ _ W3 hG.np.tv hI.at_ hcap.1 hcap.2 (by have := fits_len hL; have := hI.length; omega)
        rw [hfp] at hz
        obtain ⟨⟨p0, p1, p2, p3⟩, ⟨t0, t1, t2, t3⟩, r0, r1⟩ := hG.cells
        have HPM := Lib.hid hpm
        clear hL hLB hI hfp hpm hcap
        go_wp2_with fail
        refine (hz.mono fun _ _ h => TreeRes.out2 h).mono ?_
        clear hz p0 p1 p2 p3 t0 t1 t2 t3 r0 r1
        rintro e W4 ⟨up, ul, uc, Au, rfl, hu, hAu, hk⟩
        have hk4 := hk.alloc (.cells (four t.k t.n t.t up ul uc) T)
        have hG4 := hG.next hk4
        have hU := (hu.next ((Keeps.refl _ W4).alloc (.cells (four t.k t.n t.t up ul uc) T))).boxedAt (n := t.n) (heap_alloc_new W4 _)
        have hz := Eq_any (t.c.nodes + 1) t.k t.k t.n t.n t.t t.t t.c t.c _ _ _ _ _ _ _ _ _ (by omega) hU.tv hG4.nt.tv
        rw [eqB_self] at hz
        obtain ⟨⟨p0, p1, p2, p3⟩, ⟨t0, t1, t2, t3⟩, r0, r1⟩ := hG4.cells
        clear hU hu hAu hk
        go_wp2_with fail
        refine hz.mono ?_
        clear hz p0 p1 p2 p3 t0 t1 t2 t3 r0 r1
        rintro e W5 ⟨rfl, hk5⟩
        have hG5 := hG4.next hk5
        have hz := pMay_any p _ cl cc _ W5 hG5.np.tv
        rw [HPM.out] at hz
        obtain ⟨⟨p0, p1, p2, p3⟩, ⟨t0, t1, t2, t3⟩, r0, r1⟩ := hG5.cells
        go_wp2_with fail
        refine hz.mono ?_
        clear hz p0 p1 p2 p3 t0 t1 t2 t3 r0 r1
        rintro e W6 ⟨rfl, hk6⟩
        go_wp2_with fail
        go_meet
        case rel => exact (hk4.trans hk5).trans hk6
    case rest =>
      obtain ⟨W4, hW4⟩ : ∃ V, V = wc := ⟨_, rfl⟩
      subst hW4
      have hG := hG.next hcut
      clear hI hcut
      have hz := Fill_any p bs cp bp cl cc bl bc _ _ W4 hG.np.tv hG.bb hbc hbc2 hbl6
      obtain ⟨⟨u, code⟩, hfl⟩ : ∃ r, fillF p bs = r := ⟨_, rfl⟩
      rw [hfl] at hz
      obtain ⟨⟨p0, p1, p2, p3⟩, ⟨t0, t1, t2, t3⟩, r0, r1⟩ := hG.cells
      have HFL := Lib.hid hfl
      clear hfl
      go_wp2_with fail
      refine (hz.mono fun _ _ h => TreeRes.out2 h).mono ?_
      clear hz p0 p1 p2 p3 t0 t1 t2 t3 r0 r1
      rintro e W5 ⟨up, ul, uc, Au, rfl, hu, hAu, hk⟩
      have hk5 := (Keeps.refl (fun _ => False) W5).alloc (.cells (four u.k u.n u.t up ul uc) T)
      have hG := (hG.next hk).next hk5
      have hU := (hu.next hk5).boxedAt (n := u.n) (heap_alloc_new W5 _)
      obtain ⟨ub, hub⟩ : ∃ b, b = W5.heap.size := ⟨_, rfl⟩
      rw [← hub] at hU
      obtain ⟨V, hV⟩ : ∃ V, V = W5.alloc (.cells (four u.k u.n u.t up ul uc) T) := ⟨_, rfl⟩
      rw [← hV] at hG hU
      clear hk5 hk hu hAu
      go_upto_if 67 with fail
      rw [← hub, ← hV]
      clear hub hV
      go_cut [] from 11 (fun W => Keeps (fun _ => False) V W)
      case first =>
        by_cases hc0 : code = 0
        · subst hc0
          obtain ⟨m, hm, hmn, hmb⟩ := fill_fits HFL.out
          have hz := Fits_any p u _ _ cl cc ul uc _ _ _ hG.np.tv hU.tv
          rw [show fitsB p u = m by simp [fitsB, hm], show (fitsF p u).isSome = true by simp [hm]] at hz
          obtain ⟨⟨p0, p1, p2, p3⟩, _, _, _⟩ := hG.cells
          have u0 := hU.c0
          have u1 := hU.c1
          have u2 := hU.c2
          have u3 := hU.c3
          have HMN := Lib.hid hmn
          have HMB := Lib.hid hmb
          clear hm hmn hmb hU
          go_wp2_with fail
          refine hz.mono ?_
          clear hz p0 p1 p2 p3 u0 u1 u2 u3
          rintro e W6 ⟨mp, ml, mc, xs, blks, rfl, hI, hk⟩
          have hG := hG.next hk
          have hMA := hI.at_.top
          have hK6 := hk
          obtain ⟨hmc1, hmc2⟩ := hI.cap
          clear hI hk
          have hz := pNames_any p _ cl cc _ _ hG.np.tv
          obtain ⟨⟨p0, p1, p2, p3⟩, _, _, _⟩ := hG.cells
          go_wp2_with fail
          refine hz.mono ?_
          clear hz p0 p1 p2 p3
          rintro e W7 ⟨np, nl, nc, rfl, hrow, _, hk⟩
          have hG := hG.next hk
          have hMA := (hMA.next hk).top
          have hK7 := hK6.trans hk
          have hml : m.length = ml := hMA.len
          obtain rfl : nl = ml := by rw [row_len hrow, ← hml, ← HMN.out, List.length_map]
          have HMA := Lib.hid hMA
          have HK7 := Lib.hid hK7
          have HROW := Lib.hid hrow
          have HG := Lib.hid hG
          have HML := Lib.hid hml
          clear hk hMA hK6 hK7 hrow hG hml
          go_wp2_with fail
          go_loopg [16] nl (fun r i W => ∃ j : Nat, j + r = nl ∧ i = .int .i64 j ∧ Keeps (fun _ => False) W7 W)
          case atStart => exact ⟨0, by omega, rfl, Keeps.refl _ _⟩
          case round =>
            obtain ⟨j, hjm, rfl, hkr⟩ := hrel
            have HJ := Lib.hid hjm
            have hj0 : (0 : Int) ≤ (j : Int) := Int.natCast_nonneg _
            obtain ⟨wo, hwo⟩ : ∃ V, V = wr := ⟨_, rfl⟩
            subst hwo
            have HKR := Lib.hid hkr
            clear hjm hkr
            by_cases hlt : j < nl
            · obtain ⟨⟨nm, y⟩, he⟩ : ∃ e, m[j]? = some e := ⟨_, List.getElem?_eq_getElem (by have := HML.out; omega)⟩
              obtain ⟨mb, mo, hmp, _, _⟩ := HMA.out.addr (by omega)
              subst hmp
              have hin : Hid ((nm, y) ∈ bs) := Lib.hid (HMB.out _ (List.mem_of_getElem? he))
              have hi1 : (j : Int) < (nl : Int) := by omega
              have HE := Lib.hid he
              clear he
              go_wp2_with fail
              go_loopg [17, 18] bl (fun r f k W => ∃ j2 : Nat, j2 + r = bl ∧ k = .int .i64 j2 ∧ ∃ b, f = .bool b ∧ (b = true ∨ (nm, y) ∈ bs.drop j2) ∧ Keeps (fun _ => False) wo W)
              case atStart => exact ⟨0, by omega, rfl, false, rfl, .inr (by rw [List.drop_zero]; exact hin.out), Keeps.refl _ _⟩
              case round =>
                obtain ⟨j2, hjm2, rfl, b, rfl, hor, hkr2⟩ := hrel
                have HJ2 := Lib.hid hjm2
                have HOR := Lib.hid hor
                have hj20 : (0 : Int) ≤ (j2 : Int) := Int.natCast_nonneg _
                obtain ⟨wi, hwi⟩ : ∃ V, V = wr := ⟨_, rfl⟩
                subst hwi
                have HKR2 := Lib.hid hkr2
                have hMi := ((HMA.out.next HKR.out).next hkr2).at_ HE.out
                clear hjm2 hor hkr2
                by_cases hlt2 : j2 < bl
                · obtain ⟨⟨nm2, y2⟩, he2⟩ : ∃ e, bs[j2]? = some e := ⟨_, List.getElem?_eq_getElem (by have := HBL.out; omega)⟩
                  obtain ⟨bb, bo, hbp, _, _⟩ := HG.out.bb.addr (by omega)
                  subst hbp
                  have hBi := ((HG.out.bb.next HKR.out).next HKR2.out).at_ he2
                  have hMi2 := hMi
                  obtain ⟨_, m0, _, _, my, mlm, mcm, hNm⟩ := hMi
                  obtain ⟨_, b0, _, _, byp, byl, byc, hNb⟩ := hBi
                  have q0 := hNm.c0
                  have q1 := hNm.c1
                  have q2 := hNm.c2
                  have q3 := hNm.c3
                  have s0 := hNb.c0
                  have s1 := hNb.c1
                  have s2 := hNb.c2
                  have s3 := hNb.c3
                  have hdr : Keeps (fun _ => False) wi wi.drew := (Keeps.refl _ wi).drew
                  have hz := Eq_any (y2.c.nodes + 1) y2.k y.k y2.n y.n y2.t y.t y2.c y.c _ _ _ _ _ _ _ _ wi.drew (by omega) (hNb.tv.next hdr) (hNm.tv.next hdr)
                  obtain ⟨se, hse⟩ : ∃ v, eqB (one y2.k y2.n y2.t y2.c) (one y.k y.n y.t y.c) = v := ⟨_, rfl⟩
                  rw [hse] at hz
                  have HSE := Lib.hid hse
                  have hbl2 : (j2 : Int) < (bl : Int) := by omega
                  have HD2 : Hid (bs.drop j2 = (nm2, y2) :: bs.drop (j2 + 1)) := by show bs.drop j2 = _; rw [List.drop_eq_getElem_cons (by have := HBL.out; omega)]; congr 1; exact (List.getElem?_eq_some_iff.1 he2).2
                  have hc : ∀ W', Keeps (fun _ => False) wi.drew W' → W'.cell? ⟨mb, mo + j * 5, none⟩ = some (.string nm) ∧ W'.cell? ⟨bb, bo + j2 * 5, none⟩ = some (.string nm2) := fun W' hk => ⟨((hdr.trans hk).cell (p := ⟨mb, mo + j * 5, none⟩) (World.block_lt_of_cell? wi _ m0) (fun h => h)).trans m0, ((hdr.trans hk).cell (p := ⟨bb, bo + j2 * 5, none⟩) (World.block_lt_of_cell? wi _ b0) (fun h => h)).trans b0⟩
                  have HC := Lib.hid hc
                  clear hc hse he2 hNm hNb hMi2 hdr
                  go_wp2_with fail
                  go_still_tail 10, (by kernel_rfl)
                  change wpList _ _ _ _ _ wi.drew
                  go_wp2_with fail
                  refine hz.mono ?_
                  clear hz q0 q1 q2 q3 s0 s1 s2 s3 m0 b0
                  rintro e W8 ⟨rfl, hk8⟩
                  obtain ⟨m0, b0⟩ := HC.out _ hk8
                  have HK8 := Lib.hid (HKR2.out.trans (((Keeps.refl _ wi).drew).trans hk8))
                  clear hk8
                  have fin : ∀ W' b', Keeps (fun _ => False) W8 W' → (b' = true ∨ (nm, y) ∈ bs.drop (j2 + 1)) → ∃ j3 : Nat, j3 + (gk - 1) = bl ∧ Value.int .i64 ((j2 : Int) + 1) = .int .i64 j3 ∧ ∃ b, Value.bool b' = .bool b ∧ (b = true ∨ (nm, y) ∈ bs.drop j3) ∧ Keeps (fun _ => False) wo W' := fun W' b' hk ho => ⟨j2 + 1, by have := HJ2.out; omega, by go_num, b', rfl, ho, HK8.out.trans hk⟩
                  have FIN := Lib.hid fin
                  clear fin
                  cases b with
                  | true =>
                    clear m0 b0
                    go_wp2_with fail
                    go_quiet (fail)
                    go_wp2_with fail
                    go_roundg (gk - 1)
                    case measure => have := HJ2.out; omega
                    case rel => exact FIN.out _ _ ((Keeps.refl _ W8).drewN _) (.inl rfl)
                  | false =>
                    by_cases hnn : nm2 = nm
                    · subst hnn
                      go_wp2_with fail
                      go_quiet (fail)
                      go_wp2_with fail
                      go_roundg (gk - 1)
                      case measure => have := HJ2.out; omega
                      case rel =>
                        refine FIN.out _ _ ((Keeps.refl _ W8).drewN _) ?_
                        rcases HOR.out with h | h
                        · cases h
                        · rw [HD2.out] at h
                          rcases List.mem_cons.1 h with h | h
                          · simp only [Prod.mk.injEq, true_and] at h
                            subst h
                            exact .inl (by rw [← HSE.out, eqB_self])
                          · exact .inr h
                    · have hnm := txt_ne hnn
                      have HNN := Lib.hid hnn
                      go_wp2_with fail
                      go_quiet (fail)
                      go_wp2_with fail
                      go_roundg (gk - 1)
                      case measure => have := HJ2.out; omega
                      case rel =>
                        refine FIN.out _ _ ((Keeps.refl _ W8).drewN _) ?_
                        rcases HOR.out with h | h
                        · cases h
                        · rw [HD2.out] at h
                          rcases List.mem_cons.1 h with h | h
                          · simp only [Prod.mk.injEq] at h
                            exact absurd h.1.symm HNN.out
                          · exact .inr h
                · obtain rfl : b = true := by
                    rcases HOR.out with h | h
                    · exact h
                    · rw [List.drop_eq_nil_of_le (by have := HBL.out; omega)] at h
                      simp at h
                  obtain ⟨_, m0, _, _, _⟩ := hMi
                  have hrw := ownsRow_kp HROW.out (HKR.out.trans HKR2.out) (fun _ _ h => h)
                  have hnj : (namesF p)[j]? = some nm := by rw [← HMN.out, List.getElem?_map, HE.out]; rfl
                  obtain ⟨np', ncap, hne, _, _, hng⟩ := ownsRow_slice hrw
                  have hnl : (namesF p).length = nl := by rw [← HMN.out, List.length_map, HML.out]
                  simp only [Value.slice.injEq] at hne
                  obtain ⟨rfl, hq9, rfl⟩ := hne
                  clear hq9
                  obtain ⟨ng, rfl⟩ := hng (by omega)
                  rw [hnl] at hrw
                  have n0 := hrw.cellAt j (by omega)
                  rw [List.getElem?_map, hnj] at n0
                  simp only [Option.map_some] at n0
                  clear hrw hnj hng hnl
                  go_wp2_with fail
                  go_quiet (fail)
                  go_wp2_with fail
                  go_roundg (nl - (j + 1))
                  case measure => have := HJ.out; omega
                  case rel => exact ⟨j + 1, by omega, by go_num, (HKR.out.trans HKR2.out).drewN _⟩
            · go_wp2_with fail
              go_meet
              case rel => exact HK7.out.trans HKR.out
        · have h0 : (code == 0) = false := by simpa using hc0
          clear hG hU
          go_wp2_with fail
          go_meet
          case rel => exact Keeps.refl _ _
      case rest =>
        obtain ⟨W6, hW6⟩ : ∃ V, V = wc := ⟨_, rfl⟩
        subst hW6
        have hG := hG.next hcut
        clear hU hcut
        obtain ⟨Kb, hKb⟩ : ∃ b, b = W6.heap.size := ⟨_, rfl⟩
        have hG7 := hG.next ((Keeps.refl _ W6).alloc (.cells #[.int .i64 0] 3))
        have hz := MFind_any p t _ _ cl cc tl tc _ _ _ hG7.np.tv hG7.nt.tv
        have hKc := heap_alloc_new W6 (.cells #[.int .i64 0] 3)
        have hs7 : (W6.alloc (.cells #[.int .i64 0] 3)).heap.size = W6.heap.size + 1 := by simp
        have hk67 : Keeps (fun _ => False) W6 (W6.alloc (.cells #[.int .i64 0] 3)) := (Keeps.refl _ W6).alloc _
        obtain ⟨⟨p0, p1, p2, p3⟩, ⟨t0, t1, t2, t3⟩, r0, r1⟩ := hG7.cells
        have HS7 := Lib.hid hs7
        have HKB := Lib.hid hKb
        clear hs7 hKb
        go_wp2_with fail
        refine hz.mono ?_
        clear hz p0 p1 p2 p3 t0 t1 t2 t3 r0 r1
        rintro e W8 ⟨fp, fl, fc, vs, rfl, hPI, hk⟩
        have hG8 := (hG7.next hk).next ((Keeps.refl _ W8).alloc (.cells #[.slice fp fl fc] 43))
        have hfl : fl = (findF p t).length := hPI.leng
        have hz := May_any t tp tl tc _ _ hG8.nt.tv
        obtain ⟨⟨p0, p1, p2, p3⟩, ⟨t0, t1, t2, t3⟩, r0, r1⟩ := hG8.cells
        obtain ⟨mt, hmt⟩ : ∃ r, mayF t = r := ⟨_, rfl⟩
        rw [hmt] at hz
        have HMT := Lib.hid hmt
        have HFL := Lib.hid hfl
        clear hmt hfl
        go_wp2_with fail
        refine hz.mono ?_
        clear hz p0 p1 p2 p3 t0 t1 t2 t3 r0 r1
        rintro e W9 ⟨rfl, hk9⟩
        have hFc := hk9.heap (heap_alloc_new W8 (.cells #[.slice fp fl fc] 43))
        have hG9 := hG8.next hk9
        have hk69 := ((hk67.trans hk).alloc (.cells #[.slice fp fl fc] 43)).trans hk9
        have hKc9 := ((hk.alloc (.cells #[.slice fp fl fc] 43)).trans hk9).heap hKc
        obtain ⟨Fb, hFb⟩ : ∃ b, b = W8.heap.size := ⟨_, rfl⟩
        rw [← hFb] at hFc
        rw [← HKB.out] at hKc9
        have hPI9 := hPI.next (((Keeps.refl _ W8).alloc (.cells #[.slice fp fl fc] 43)).trans hk9) (fun _ h => h.elim)
        rw [HS7.out, ← HKB.out] at hPI9
        have hKF : Kb < Fb := by have := hk.size; rw [HS7.out] at this; rw [HKB.out, hFb]; omega
        have hP8 : ∀ b, (Lists.Blk (.slice fp fl fc) vs b) → b < Fb := fun b hb => by rw [hFb]; exact (Lists.lo hPI hb).2
        have HFB := Lib.hid hFb
        have f0 : W9.cell? ⟨Fb, 0, none⟩ = some (.slice fp fl fc) := by simp [World.cell?, hFc]
        obtain ⟨⟨p0, p1, p2, p3⟩, ⟨t0, t1, t2, t3⟩, r0, r1⟩ := hG9.cells
        clear hG7 hG8 hk hk9 hKc hk67 hPI hFb
        rw [← HFB.out, ← HKB.out]
        by_cases hm0 : mt = 0
        · subst hm0
          have hz := Each_any t tp tl tc _ W9 hG9.nt.tv
          go_wp2_with fail
          refine hz.mono ?_
          clear hz p0 p1 p2 p3 t0 t1 t2 t3 r0 r1 f0
          rintro e W10 ⟨gf, lb, It, rfl, heg, hIt, hk, hit⟩
          have hG10 := hG9.next hk
          have hF10 := hk.heap hFc
          have hKc10 := hk.heap hKc9
          have hPI10 := hPI9.next hk (fun _ h => h.elim)
          have hk10 := hk69.trans hk
          have hs9 := heap_lt hFc
          have hItl : ∀ b, It b → Fb < b ∧ b < W10.heap.size := fun b hb => by have := hIt b hb; omega
          have hF10s := heap_lt hF10
          have hEL : eachL t = pre [] t := by rw [eachL, if_pos (mayF_small HMT.out)]
          have HND := Lib.hid hG.np
          have HRS : Hid (w.heap.size + 1 + 1 < Kb) := by have := heap_lt hG.res; show _ < Kb; rw [HKB.out]; exact this
          have hSP : ∀ b, (It b ∨ b = Kb ∨ b = W10.heap.size + 1) → W6.heap.size ≤ b ∧ b ≠ Fb := fun b hb => by
            have := HKB.out
            rcases hb with h | h | h
            · have := hItl b h; omega
            · omega
            · omega
          have hSQ : ∀ b, (It b ∨ b = Kb ∨ b = W10.heap.size + 1) → ¬ Lists.Blk (.slice fp fl fc) vs b := fun b hb hB => by
            have h1 := hP8 b hB
            have h2 := Lists.lo hPI10 hB
            rcases hb with h | h | h
            · have := hItl b h; omega
            · omega
            · omega
          have HKL : Hid (Kb < W10.heap.size) := by show _ < _; omega
          have HKI : Hid (¬ It Kb) := by show ¬ _; exact fun h => by have := hItl _ h; omega
          have HSP := Lib.hid hSP
          have HSQ := Lib.hid hSQ
          clear hSP hSQ
          have HE := Lib.hid heg
          have HI := Lib.hid hit
          have HIT := Lib.hid hItl
          have HEL := Lib.hid hEL
          have HG10 := Lib.hid hG10
          have HPI := Lib.hid hPI10
          have HK10 := Lib.hid hk10
          have HFC := Lib.hid hF10
          have HP8 := Lib.hid hP8
          clear hk hFc hKc9 hPI9 hk69 hG9 hG heg hit hIt hItl hEL hG10 hPI10 hk10 hF10 hP8 hs9
          go_wp2_with fail
          refine (wpIn_wide (n := 1 + 2)).1 (range_law 1 (gf := gf) (lb := lb) (by rfl) HE.out HI.out (Keeps.refl _ W10) (fun b hb => (HIT.out b hb).2) (fun j vs Y W h => by obtain ⟨p, x, pv, cp, cl, cc, bs, _, rfl, _⟩ := h; rfl)
            (CJ (fcnt p (eachL t)) It W10 Kb) (fun _ _ _ => False) (CJ.stab (by omega) (fun h => by have := HIT.out _ h; omega)) (fun _ _ _ _ h _ => h) (fun b => b < W10.heap.size ∧ ¬ It b) (fun b hb => hb) ⟨fun b h1 h2 => ⟨h1, h2⟩, Keeps.refl _ _, by rw [fcnt_zero]; exact hKc10⟩ ?round ?done ?stop)
          case stop => exact fun _ _ _ h => h.elim
          case round =>
            clear HE HI
            rintro j B2 Y vs' W hj hBl hJ ⟨path, x, pv, cp', cl', cc', bs', hL, rfl, hrow, hown, hsz, hYe⟩ hY hBD hlt
            gi_wp2
            have hka : Keeps (fun _ => False) W (W.alloc (.cells (four x.k x.n x.t cp' cl' cc') T)) := (Keeps.refl _ W).alloc _
            refine ⟨hka.mono fun _ h _ => h.elim, fun W₂ hk2 => ?_⟩
            have hW2 : Keeps (fun b => It b ∨ b = Kb ∨ b = W10.heap.size + 1) W10 W₂ := ((hJ.2.1.mono (S' := fun b => It b ∨ b = Kb ∨ b = W10.heap.size + 1) (fun b hb _ => hb.imp id .inl)).trans' hka (fun b hb _ => hb.elim)).trans' hk2 (fun b hb _ => .inr (.inr hb))
            have hW6 : Keeps (fun b => W6.heap.size ≤ b) W6 W₂ := (HK10.out.mono (S' := fun b => W6.heap.size ≤ b) fun _ h _ => h.elim).trans' hW2 (fun b hb hl => (HSP.out b hb).1)
            have hb0 : W.heap.size < W₂.heap.size := by have := hk2.size; simp at this; omega
            have hbx : W₂.heap[W.heap.size]? = some (.cells (four x.k x.n x.t cp' cl' cc') T (0, 0)) := (hk2.block _ (by simp) (by omega)).trans (heap_alloc_new W _)
            have hKd : W₂.heap[Kb]? = some (.cells #[.int .i64 ((fcnt p (eachL t) j : Nat) : Int)] 3 (0, 0)) := (hk2.block _ (by have := heap_lt hJ.2.2; simp; omega) (by omega)).trans ((hka.block _ (heap_lt hJ.2.2) (fun h => h)).trans hJ.2.2)
            have hFd : W₂.heap[Fb]? = some (.cells #[.slice fp fl fc] 43 (0, 0)) := (hW2.block _ hF10s (fun h => (HSP.out _ h).2 rfl)).trans HFC.out
            have hNp : NodeAt W₂ (fun b => b < W6.heap.size) w.heap.size 0 p.k p.n p.t p.c cp cl cc := HND.out.keeps hW6 (fun b h => by show ¬ _; omega) (by have := HRS.out; have := HKB.out; omega) (by show ¬ _; have := HRS.out; have := HKB.out; omega)
            have hTx : Tv W₂ (fun b => b ∈ bs') x.k x.t x.c cp' cl' cc' := ((hown.tv hsz).next hka).keeps hk2 (fun b hb e => by have := (hY b (by rw [hYe]; exact .inr hb)); omega)
            have hz := Fits_any p x _ _ cl cc cl' cc' _ _ W₂ hNp.tv hTx
            have hpl : path.length ≤ 9223372036854775807 := hrow.leq
            obtain ⟨pp, pc, rfl, hints⟩ := hrow.ints hpl
            have hi2 := (hints.keeps hka (fun _ _ h => h)).keeps hk2 (fun b hb e => by have := hY b (by rw [hYe]; exact .inl hb); omega)
            have c0 := hNp.c0
            have c1 := hNp.c1
            have c2 := hNp.c2
            have c3 := hNp.c3
            obtain ⟨b0, b1, b2, b3, _⟩ := box4 hbx
            have hPId : PathsI (Kb + 1) W₂ (findF p t) (fp) fl fc vs := Lists.keeps HPI.out hW2 HSQ.out
            obtain ⟨fv, hfv⟩ : ∃ v, (fitsF p x).isSome = v := ⟨_, rfl⟩
            rw [hfv] at hz
            have hjc := hj
            rw [HEL.out] at hL
            have hst := fcnt_step (p := p) hL
            rw [show fitsAt p (path, x) = fv from hfv, ← HEL.out] at hst
            have HST := Lib.hid hst
            have HL := Lib.hid hL
            have HFV := Lib.hid hfv
            have HKD := Lib.hid hKd
            have HFD := Lib.hid hFd
            have HI2 := Lib.hid hi2
            have HPD := Lib.hid hPId
            have HJ := Lib.hid hJ
            have HBL2 := Lib.hid hBl
            have HK2 := Lib.hid hk2
            have HKA := Lib.hid hka
            clear hst hL hfv hKd hFd hi2 hPId hJ hBl hk2 hka hrow hown hsz hYe hY hBD hj hW2 hW6 hNp hTx hbx hints hjc
            gi_wp2_with fail
            refine ⟨trivial, (CallsIn.inRound _ (callsIn_wide.2 hz)).mono ?_⟩
            clear hz c0 c1 c2 c3 b0 b1 b2 b3
            rintro e Wn ⟨zp, zl, zc, zx, zb, rfl, _, hkn⟩
            cases fv with
            | false =>
              gi_wp2_with fail
              exact (CJ.same (by omega) (by omega) HJ.out HBL2.out HKA.out HK2.out hkn (by rw [HST.out]; rfl))
            | true =>
              have hk0 : Wn.heap[Kb]? = some (.cells #[.int .i64 ((fcnt p (eachL t) j : Nat) : Int)] 3 (0, 0)) := hkn.heap HKD.out
              have hf0 : Wn.heap[Fb]? = some (.cells #[.slice fp fl fc] 43 (0, 0)) := hkn.heap HFD.out
              have hat := fcnt_at HL.out HFV.out
              rw [← findF_all HMT.out, ← HEL.out] at hat
              have hPn := HPD.out.next hkn (fun _ h => h.elim)
              obtain ⟨g, qp, qc, rfl, hgl, hgc, hqi⟩ := hPn.get hat
              obtain ⟨kn, hkn9⟩ : ∃ k, fcnt p (eachL t) j = k := ⟨_, rfl⟩
              rw [hkn9] at hk0 hgc
              have hklt : kn < fl := by rw [HFL.out, ← hkn9]; exact (List.getElem?_eq_some_iff.1 hat).1
              have hkl1 : (kn : Int) < (fl : Int) := by omega
              have hk00 : (0 : Int) ≤ (kn : Int) := Int.natCast_nonneg _
              have k0 : Wn.cell? ⟨Kb, 0, none⟩ = some (.int .i64 (kn : Int)) := by simp [World.cell?, hk0]
              have f0 : Wn.cell? ⟨Fb, 0, none⟩ = some (.slice (some ⟨g, 0, none⟩) fl fc) := by simp [World.cell?, hf0]
              have hz := EqPath_any path path qp pp path.length path.length qc pc _ _ Wn hqi (HI2.out.keeps hkn (fun _ _ h => h))
              rw [decide_eq_true rfl] at hz
              have HKN := Lib.hid hkn9
              have HKW := Lib.hid hkn
              have HK0 := Lib.hid hk0
              clear hk0 hf0 hat hPn hqi hkn9 hkn hgl
              gi_wp2_with fail
              refine ⟨trivial, (CallsIn.inRound _ (callsIn_wide.2 hz)).mono ?_⟩
              clear hz k0 f0 hgc
              rintro e Wm ⟨rfl, hkm⟩
              have hk0 := hkm.heap HK0.out
              have k0 : Wm.cell? ⟨Kb, 0, none⟩ = some (.int .i64 (kn : Int)) := by simp [World.cell?, hk0]
              have k1 : Wm.frozen? ⟨Kb, 0, none⟩ = false := by simp [World.frozen?, hk0]
              have hkb : (kn : Int) ≤ 3000 := by
                have h1 := fcnt_le p (eachL t) j
                rw [HKN.out, HEL.out, pre_len] at h1
                have h2 := small_nodes (mayF_small HMT.out)
                omega
              have HKM := Lib.hid (HKW.out.trans hkm)
              have HK0' := Lib.hid hk0
              clear hk0 hkm
              gi_wp2_with fail
              clear k0 k1 hkb
              have hrec : fcnt p (eachL t) (j + 1) = fcnt p (eachL t) j + 1 := by rw [HST.out]; rfl
              obtain ⟨B', g1, g2, g3⟩ := CJ.more (Y := Y) (f := fcnt p (eachL t)) HKL.out HKI.out (Nat.le_succ _) HJ.out HBL2.out HKA.out HK2.out HKM.out hrec
              rw [HKN.out] at g1 g2 g3
              exact ⟨B', g1, g2, g3⟩
          case done =>
            rintro B' W hJ hD hkI hBD
            have hkK : Keeps (fun b => b = Kb) W10 W := Keeps.both hJ.2.1 hkI
            have hW6 : Keeps (fun b => W6.heap.size ≤ b) W6 W := (HK10.out.mono (S' := fun b => W6.heap.size ≤ b) fun _ h _ => h.elim).trans' hkK (fun b hb hl => (HSP.out b (.inr (.inl hb))).1)
            have hcn : fcnt p (eachL t) (eachL t).length = fl := by rw [HFL.out, findF_all HMT.out, ← HEL.out]; exact fcnt_all p (eachL t)
            have hKd := hJ.2.2
            rw [hcn] at hKd
            have hFd : W.heap[Fb]? = some (.cells #[.slice fp fl fc] 43 (0, 0)) := (hkK.block _ hF10s (by have := HKB.out; omega)).trans HFC.out
            have hRd : W.heap[w.heap.size + 1 + 1]? = some (.cells #[.bool false] 4 (0, 0)) := (hkK.block _ (heap_lt HG10.out.res) (by have := HRS.out; omega)).trans HG10.out.res
            have hkw : Keeps (fun _ => False) w W := HG10.out.keeps.trans' hkK (fun b hb hl => by have := HRS.out; omega)
            have hne : W10.heap.size ≠ w.heap.size + 1 + 1 := by have := HRS.out; omega
            have k0 : W.cell? ⟨Kb, 0, none⟩ = some (.int .i64 (fl : Int)) := by simp [World.cell?, hKd]
            have f0 : W.cell? ⟨Fb, 0, none⟩ = some (.slice fp fl fc) := by simp [World.cell?, hFd]
            have r0 : W.cell? ⟨w.heap.size + 1 + 1, 0, none⟩ = some (.bool false) := by simp [World.cell?, hRd]
            have r1 : W.frozen? ⟨w.heap.size + 1 + 1, 0, none⟩ = false := by simp [World.frozen?, hRd]
            have HRD := Lib.hid hRd
            have HKW := Lib.hid hkw
            have HD := Lib.hid hD
            clear hJ hkI hkK hW6 hcn hKd hFd hRd hkw hD HE HI
            go_wp2_with fail
            have hres : ((W.setCell ⟨w.heap.size + 1 + 1, 0, none⟩ (.bool true)).putObj W10.heap.size (.deferred none)).cell? ⟨w.heap.size + 1 + 1, 0, none⟩ = some (.bool true) := by
              simp only [World.cell?, World.putObj_heap_other (Ne.symm hne), heap_set HRD.out]; rfl
            refine ret_mark (v := .bool true) ((Below.heap_setCell _ _ _ _ hne).trans HD.out) (by simp [results, Try.results6, go_sem, hres]) ⟨rfl, ?_⟩
            exact (HKW.out.trans' ((Keeps.refl (fun b => b = w.heap.size + 1 + 1) W).setCell (p := ⟨w.heap.size + 1 + 1, 0, none⟩) (fun _ => rfl) _) (fun b hb hl => by omega)).trans' (Keeps.putObj _ _ _) (fun b hb hl => by have := HRS.out; have := HG10.out.keeps.size; omega)
        · have h0 : (mt != 0) = true := by simpa using hm0
          obtain rfl : fl = 0 := by rw [HFL.out, findF_no (fun h => hm0 (HMT.out ▸ h))]; rfl
          obtain rfl : ok = false := by rw [← HOK.out, fitsF_no (fun h => hm0 (HMT.out ▸ h))]; rfl
          go_wp2_with fail
          obtain ⟨d1, d2⟩ := hG9.done
          exact ret_plain (v := .bool true) (by simp [results, Try.results6, go_sem, d1]) ⟨rfl, d2⟩
end Go.Proofs.Ytccoihmibkpedaa
