/-
  espalierref24.fits: its walk.
-/
import Derived.Test.YtccoihmibkpedaaRFitsP

import Derived.Deep.RegionHeld3

set_option linter.unusedVariables false

set_option linter.unusedSimpArgs false

namespace Go.Proofs.Ytccoihmibkpedaa

open Go.RowKit

attribute [local go_sem] Oper.semAt_some

noncomputable def bindH (L : List Bind) (nm : ByteArray) (y : Nd) : List Bind × Bool := match bget L nm with
  | some z => (L, eqN z y)
  | none => (L ++ [(nm, y)], true)
theorem bindF_like {L : List Bind} {nm : ByteArray} {n : Int} {t : ByteArray} {y : Nd} (h : likeF n t y = true) : bindF L nm n t y = bindH L nm y := by
  unfold bindF bindH
  rw [if_pos h]
  cases bget L nm <;> rfl
theorem bindH_some {L : List Bind} {nm : ByteArray} {y z : Nd} (h : bget L nm = some z) : bindH L nm y = (L, eqN z y) := by unfold bindH; rw [h]
theorem bindH_none {L : List Bind} {nm : ByteArray} {y : Nd} (h : bget L nm = none) : bindH L nm y = (L ++ [(nm, y)], true) := by unfold bindH; rw [h]
theorem same_eqN {z y : Nd} (hz : z.small) (hy : y.small) : sameF z y = eqN z y := by
  unfold sameF eqN
  rw [decide_eq_true hz, decide_eq_true hy]
  simp only [Bool.true_and]
  unfold eqB
  congr 1
  rw [one_inj]
  apply propext
  constructor
  · rintro ⟨h1, h2, h3, h4⟩; exact Nd.ext' h1 h2 h3 h4
  · rintro rfl; exact ⟨rfl, rfl, rfl, rfl⟩
set_option maxRecDepth 100000 in
set_option maxHeartbeats 6400000 in
theorem rfits_any (D : Nat) (A A' : Nat → Prop) (hA : ∀ b, A b → b < D) (hA' : ∀ b, A' b → b < D) : ∀ (N : Nat) (k : ByteArray) (n : Int) (t : ByteArray) (c : Fo) (cp : Option Addr) (cl cc : Nat) (y : Nd) (yp : Option Addr) (yl yc : Nat) (L : List Bind) (lp : Option Addr) (ll lc : Nat) (xs : List Value) (w : World), c.nodes < N → Tv w A' k t c cp cl cc → Tv w A y.k y.t y.c yp yl yc → y.small → BindsX D A w L lp ll lc xs → (∀ e ∈ L, e.2.small) → D ≤ w.heap.size → L.length + c.nodes ≤ 100000 →
    Calls Try.prog 55 #[tv k n t cp cl cc, tv y.k y.n y.t yp yl yc, .slice lp ll lc] w (FitsX D A lp ll lc (fit1 k n t c y L) w) := by
  intro N
  induction N with
  | zero => intros; omega
  | succ N ih =>
    intro k n t c cp cl cc y yp yl yc L lp ll lc xs w hN h hy hys hI hLs hD hlen
    obtain ⟨Wp, hWp⟩ : ∃ W1, W1 = w.alloc (.cells (four k n t cp cl cc) T) := ⟨_, rfl⟩
    obtain ⟨W1, hW1⟩ : ∃ W1, W1 = Wp.alloc (.cells (four y.k y.n y.t yp yl yc) T) := ⟨_, rfl⟩
    have hKp : Keeps (fun _ => False) w Wp := by rw [hWp]; exact (Keeps.refl _ w).alloc _
    have hK1 : Keeps (fun _ => False) Wp W1 := by rw [hW1]; exact (Keeps.refl _ Wp).alloc _
    have hK := hKp.trans hK1
    have hsp : Wp.heap.size = w.heap.size + 1 := by rw [hWp]; simp
    have hs1 : W1.heap.size = w.heap.size + 1 + 1 := by rw [hW1]; simp [hsp]
    have hb1 : W1.heap[w.heap.size]? = some (.cells (four k n t cp cl cc) T (0, 0)) := by
      refine hK1.heap ?_
      rw [hWp]; exact heap_alloc_new _ _
    have hb2 : W1.heap[w.heap.size + 1]? = some (.cells (four y.k y.n y.t yp yl yc) T (0, 0)) := by rw [hW1, ← hsp]; exact heap_alloc_new _ _
    have ht1 := h.next hK
    have hy1 := hy.next hK
    have hI1 := hI.next hK
    have hown : ∀ b, (Value.slice lp ll lc).ownBlock = some b → D ≤ b ∧ b < w.heap.size := fun b hb => World.ownsRow.lt hI.row b hb
    have hz := rVar_any k n t c cp cl cc _ W1 ht1
    obtain ⟨c0, c1, c2, c3, _⟩ := box4 hb1
    have hks := h.size.2
    have HW : Hid (W1 = (w.alloc (.cells (four k n t cp cl cc) T)).alloc (.cells (four y.k y.n y.t yp yl yc) T)) := Lib.hid (by rw [hW1, hWp])
    have HIH := Lib.hid ih
    have HB1 := Lib.hid hb1
    have HB2 := Lib.hid hb2
    have HT1 := Lib.hid ht1
    have HY1 := Lib.hid hy1
    have HI1 := Lib.hid hI1
    have HOW := Lib.hid hown
    have HS1 := Lib.hid hs1
    have HN := Lib.hid hN
    have HCL := Lib.hid h.len
    have HYL := Lib.hid hy.len
    have HLS := Lib.hid hLs
    have HYS := Lib.hid hys
    have hlcc := h.lc
    have hccm := h.cm
    have hylc := hy.lc
    have hycm := hy.cm
    have hLLI := Lib.hid hI1.length
    obtain ⟨hbc1, hbc2⟩ := hI1.cap
    clear ih hW1 hWp hb1 hb2 hI1 ht1 hy1 hown hs1 hN h hy hLs hys hsp hKp hK1 hI
    go_enter Try.func55, Try.ntmps55
    go_upto_region 1 with fail
    rw [← HW.out]
    go_wp2_with fail
    refine hz.mono ?_
    clear hz c0 c1 c2 c3
    rintro e W2 ⟨nm, rfl, hnm, hk2⟩
    have hb2 := hk2.heap HB1.out
    have hd2 := hk2.heap HB2.out
    obtain ⟨c0, c1, c2, c3, _⟩ := box4 hb2
    obtain ⟨d0, d1, d2, d3, _⟩ := box4 hd2
    cases hv : varF k with
    | some nm' =>
      obtain rfl := hnm nm' hv
      have hr : Hid (fit1 k n t c y L = bindF L nm n t y) := by show _ = _; unfold fit1; simp only [hv]
      have hnms := var_size hv hks
      have hz := rLike_any y.k y.n y.t y.c yp yl yc _ n t W2 (HY1.out.next hk2)
      obtain ⟨lk, hlk⟩ : ∃ v, likeF n t ⟨y.k, y.n, y.t, y.c⟩ = v := ⟨_, rfl⟩
      rw [hlk] at hz
      have HLK : Hid (likeF n t y = lk) := hlk
      rw [Option.isSome_some]
      have HNMS := Lib.hid hnms
      clear hnm hv hb2 hd2 hlk hnms
      go_wp2_with fail
      refine hz.mono ?_
      clear hz c0 c1 c2 c3 d0 d1 d2 d3
      rintro e W3 ⟨rfl, hk3⟩
      have HK3 := Lib.hid (hk2.trans hk3)
      clear hk2 hk3
      cases lk with
      | false =>
        have hf : Hid (bindF L nm n t y = (L, false)) := by show _ = _; unfold bindF; rw [HLK.out]; simp
        go_wp2_with fail
        go_ret2
        refine ⟨lp, ll, lc, xs, ?_, ?_, fun b hb => .inl hb, (hK.trans HK3.out).mono fun _ h _ => h.elim⟩
        · rw [hr.out, hf.out]; rfl
        · rw [hr.out, hf.out]; exact HI1.out.next HK3.out
      | true =>
        have hf : Hid (bindF L nm n t y = bindH L nm y) := Lib.hid (bindF_like HLK.out)
        have hI3 := HI1.out.next HK3.out
        have hBA := hI3.at_
        have HI3 := Lib.hid hI3
        have HBA := Lib.hid hBA
        clear hI3 hBA
        go_wp2_with fail
        go_loopg [10] ll (fun m i W => ∃ j : Nat, j + m = ll ∧ i = .int .i64 j ∧ bget L nm = bget (L.drop j) nm ∧ Keeps (fun _ => False) W3 W)
        case atStart => exact ⟨0, by omega, rfl, rfl, Keeps.refl _ _⟩
        case round =>
          obtain ⟨j, hjm, rfl, hbg, hkr⟩ := hrel
          have hj0 : (0 : Int) ≤ (j : Int) := Int.natCast_nonneg _
          have HJ := Lib.hid hjm
          have HBG := Lib.hid hbg
          have HKR := Lib.hid hkr
          clear hjm hbg hkr
          by_cases hlt : j < ll
          · obtain ⟨⟨nm2, y2⟩, he⟩ : ∃ e, L[j]? = some e := ⟨_, List.getElem?_eq_getElem (by have := hLLI.out; omega)⟩
            have hBr := HBA.out.next HKR.out
            obtain ⟨bb, bo, hbp, _, _⟩ := hBr.addr (by omega)
            subst hbp
            obtain ⟨_, m0, _, _, qp, ql, qc, hN⟩ := hBr.at_ he
            have hi1 : (j : Int) < (ll : Int) := by omega
            have hd : Hid (bget (L.drop j) nm = if nm2 = nm then some y2 else bget (L.drop (j + 1)) nm) := by
              show _ = _
              rw [List.drop_eq_getElem_cons (List.getElem?_eq_some_iff.1 he).1, (List.getElem?_eq_some_iff.1 he).2, bget_cons]
            have hsm2 := HLS.out _ (List.mem_of_getElem? he)
            have HSM2 := Lib.hid hsm2
            clear he hBr hsm2
            by_cases hnn : nm2 = nm
            · subst hnn
              have q0 := hN.c0
              have q1 := hN.c1
              have q2 := hN.c2
              have q3 := hN.c3
              obtain ⟨d0, d1, d2, d3, _⟩ := box4 ((HK3.out.trans HKR.out).heap HB2.out)
              have hdr : Keeps (fun _ => False) wr wr.drew := (Keeps.refl _ wr).drew
              have hz := rSame_any y2 y qp yp ql qc yl yc _ _ wr.drew (hN.tv.next hdr) ((HY1.out.next (HK3.out.trans HKR.out)).next hdr)
              rw [same_eqN HSM2.out HYS.out] at hz
              obtain ⟨se, hse⟩ : ∃ v, eqN y2 y = v := ⟨_, rfl⟩
              rw [hse] at hz
              have hfv : Hid (bindF L nm2 n t y = (L, se)) := by show _ = _; rw [hf.out, bindH_some (by rw [HBG.out, hd.out, if_pos rfl]), hse]
              clear hN hdr hse
              go_wp2_with fail
              go_still_tail 6, (by kernel_rfl)
              change wpList _ _ _ _ _ wr.drew
              go_wp2_with fail
              refine hz.mono ?_
              clear hz q0 q1 q2 q3 d0 d1 d2 d3 m0
              rintro e W6 ⟨rfl, hk6⟩
              have HK6 := Lib.hid (HKR.out.trans (((Keeps.refl _ wr).drew).trans hk6))
              clear hk6
              go_wp2_with fail
              go_ret2
              refine ⟨_, ll, lc, xs, ?_, ?_, fun b hb => .inl hb, (hK.trans (HK3.out.trans HK6.out)).mono fun _ h _ => h.elim⟩
              · rw [hr.out, hfv.out]; rfl
              · rw [hr.out, hfv.out]; exact HI3.out.next HK6.out
            · have z := txt_ne hnn
              have HG : Hid (bget L nm = bget (L.drop (j + 1)) nm) := by show _ = _; rw [HBG.out, hd.out, if_neg hnn]
              clear hN hnn hd
              go_wp2_with fail
              go_roundg (gk - 1)
              case measure => have := HJ.out; omega
              case rel => exact ⟨j + 1, by have := HJ.out; omega, by go_num, HG.out, HKR.out⟩
          · have hfv : Hid (bindF L nm n t y = (L ++ [(nm, y)], true)) := by
              show _ = _
              rw [hf.out, bindH_none]
              rw [HBG.out, List.drop_eq_nil_of_le (by have := hLLI.out; omega)]
              rfl
            obtain ⟨V, hV⟩ : ∃ V, V = wr := ⟨_, rfl⟩
            subst hV
            obtain ⟨d0, d1, d2, d3, _⟩ := box4 ((HK3.out.trans HKR.out).heap HB2.out)
            have hIr := HI3.out.next HKR.out
            have hyr := HY1.out.next (HK3.out.trans HKR.out)
            obtain ⟨i0, hi0', hz0, hz1, hz2⟩ := info_parts Try.bndInfo
            have hDw : D ≤ V.heap.size := by have := (HK3.out.trans HKR.out).size; have := HS1.out; omega
            have hll5 : L.length ≤ 100000 := by omega
            have HIR := Lib.hid hIr
            have HYR := Lib.hid hyr
            clear hIr hyr
            go_wp2_with (at_builtin; refine wpList_append_lies _ rfl _ _ _ rfl D TB i0 _ 5 80 Try.underlying27 hi0' hz0 hz1 hz2 rfl (by decide) (.slice lp ll lc) L.length xs rfl (HIR.out.row.alloc _) ⟨V.heap.size, 0, none⟩ 1 1 [.string nm, .string y.k, .int .i64 y.n, .string y.t, .slice yp yl yc] rfl rfl (World.news_of_block (cs := #[.string nm, .string y.k, .int .i64 y.n, .string y.t, .slice yp yl yc]) (t := TB) (fr := (0, 0)) (heap_alloc_new V _)) (by simp [Value.oneCell']) (by omega) (by simp only [maxLen]; omega) (by omega) (by simp; omega) (V.heap.size + 1) (by simp) ?_; intro gg cap w7 hown7 hgrow7 hat7 hlt7)
            clear d0 d1 d2 d3
            go_wp2_with fail
            go_ret2
            have hka : Keeps (fun _ => False) V (V.alloc (.cells #[.string nm, .string y.k, .int .i64 y.n, .string y.t, .slice yp yl yc] TB)) := (Keeps.refl _ _).alloc _
            have hkg : Keeps (fun b => (Value.slice lp ll lc).ownBlock = some b) (V.alloc (.cells #[.string nm, .string y.k, .int .i64 y.n, .string y.t, .slice yp yl yc] TB)) w7 := (Keeps.refl (fun b => (Value.slice lp ll lc).ownBlock = some b) _).grown hgrow7 (fun b hb _ => hb)
            refine ⟨some ⟨gg, 0, none⟩, L.length + 1, cap, xs ++ [.string nm, .string y.k, .int .i64 y.n, .string y.t, .slice yp yl yc], ?_, ?_, ?_, ?_⟩
            · rw [hr.out, hfv.out]; rfl
            · rw [hr.out, hfv.out]
              refine ⟨by rw [List.length_append]; exact hown7, ?_⟩
              exact BRepX.snoc HNMS.out ((HYR.out.next hka).keeps hkg (fun b hb h => by have := hA b hb; have := HOW.out b h; omega)) ((HIR.out.rep.keeps hka (fun _ _ h => h)).keeps hkg (fun b hb h => by have := hA b hb; have := HOW.out b h; omega))
            · intro b hb'
              have : gg = b := by simpa [Value.ownBlock] using hb'
              subst this
              rcases hat7 with h | h
              · exact .inl h
              · refine .inr ?_
                have := (HK3.out.trans HKR.out).size
                have := HS1.out
                omega
            · exact (((hK.trans (HK3.out.trans HKR.out)).trans hka).mono (S' := fun b => (Value.slice lp ll lc).ownBlock = some b) (fun _ h _ => h.elim)).trans' hkg (fun _ h _ => h)
    | none =>
      rw [Option.isSome_none]
      clear hnm hks
      have hno : ∀ W', Keeps (fun _ => False) W1 W' → ¬ (k = y.k ∧ n = y.n ∧ t = y.t ∧ c.len = y.c.len) → FitsX D A lp ll lc (fit1 k n t c y L) w (.returned (.tuple #[.slice lp ll lc, .bool false])) W' := fun W' hk hne => by
        have hf : fit1 k n t c y L = (L, false) := by unfold fit1; rw [hv]; simp only; rw [if_neg hne]
        rw [hf]
        exact ⟨lp, ll, lc, xs, rfl, HI1.out.next hk, fun b hb => .inl hb, (hK.trans hk).mono fun _ h _ => h.elim⟩
      have HNO := Lib.hid hno
      have HV := Lib.hid hv
      have HK2 := Lib.hid hk2
      clear hno hv hb2 hd2 hk2
      by_cases hkk : k = y.k
      · by_cases hnn : n = y.n
        · by_cases htt : t = y.t
          · by_cases hll2 : cl = yl
            · subst hll2
              have hr : Hid (fit1 k n t c y L = fitFo c y.c L) := by
                show _ = _
                unfold fit1
                rw [HV.out]
                simp only
                rw [if_pos ⟨hkk, hnn, htt, by rw [HCL.out, HYL.out]⟩]
              rw [hkk] at c0
              rw [hnn] at c1
              rw [htt] at c2
              have HKK := Lib.hid hkk
              have HNN := Lib.hid hnn
              have HTT := Lib.hid htt
              clear hkk hnn htt HNO
              go_wp2_with fail
              clear c0 c1 c2 c3 d0 d1 d2 d3
              go_loopg [2, 12, 13] cl (fun m lv bv i W => ∃ j : Nat, j + m = cl ∧ i = .int .i64 j ∧ ∃ L' lp' ll' lc' xs' b, lv = .slice lp' ll' lc' ∧ bv = .bool b ∧ BindsX D A W L' lp' ll' lc' xs' ∧ (∀ e ∈ L', e.2.small) ∧ fitFo c y.c L = fitC b L' (c.drop j) (y.c.drop j) ∧ L'.length + (c.drop j).nodes ≤ 100000 ∧
                (∀ b, (Value.slice lp' ll' lc').ownBlock = some b → (Value.slice lp ll lc).ownBlock = some b ∨ W1.heap.size ≤ b) ∧ Keeps (fun b => (Value.slice lp ll lc).ownBlock = some b) W1 W)
              case atStart => exact ⟨0, by omega, rfl, L, lp, ll, lc, xs, true, rfl, rfl, HI1.out.next HK2.out, HLS.out, rfl, hlen, fun b hb => .inl hb, HK2.out.mono fun _ h _ => h.elim⟩
              case round =>
                obtain ⟨j, hjm, rfl, L', lp', ll', lc', xs', b, rfl, rfl, hI', hls', hC, hln, hob, hkr⟩ := hrel
                have hj0 : (0 : Int) ≤ (j : Int) := Int.natCast_nonneg _
                have hnS : ∀ b, b = w.heap.size ∨ b = w.heap.size + 1 → ¬ (Value.slice lp ll lc).ownBlock = some b := fun b hb h => by have := HOW.out _ h; omega
                obtain ⟨c0, c1, c2, c3, _⟩ := box4 ((hkr.block _ (by have := HS1.out; omega) (hnS _ (.inl rfl))).trans HB1.out)
                obtain ⟨d0, d1, d2, d3, _⟩ := box4 ((hkr.block _ (by have := HS1.out; omega) (hnS _ (.inr rfl))).trans HB2.out)
                have HJ := Lib.hid hjm
                have HC := Lib.hid hC
                have HI' := Lib.hid hI'
                have HLS' := Lib.hid hls'
                have HOB := Lib.hid hob
                have HKR := Lib.hid hkr
                have HLN := Lib.hid hln
                clear hjm hC hI' hob hkr hln hls' hnS
                by_cases hlt : j < cl
                · cases b with
                  | true =>
                    have htr := HT1.out.keeps HKR.out (fun b hb h => by have := hA' b hb; have := HOW.out b h; omega)
                    have hyr := HY1.out.keeps HKR.out (fun b hb h => by have := hA b hb; have := HOW.out b h; omega)
                    obtain ⟨kb, ko, rfl, hAk, hkb⟩ := htr.kids.hasAddr (by omega)
                    obtain ⟨kb', ko', rfl, hAk', hkb'⟩ := hyr.kids.hasAddr (by omega)
                    obtain ⟨k1, n1, t1, s1, r1, hdr⟩ := Fo.drop_lt j c (by rw [HCL.out]; exact hlt)
                    obtain ⟨k2, n2, t2, s2, r2, hdr'⟩ := Fo.drop_lt j y.c (by rw [HYL.out]; exact hlt)
                    obtain ⟨cp1, cl1, cc1, hn1⟩ := htr.kids.at_ j hdr hlt
                    obtain ⟨cp2, cl2, cc2, hn2⟩ := hyr.kids.at_ j hdr' hlt
                    have hsm : Nd.small ⟨k2, n2, t2, s2⟩ := Nd.kid_small (k := y.k) (n := y.n) (t := y.t) hdr' HYS.out
                    have hnd : L'.length + s1.nodes + (c.drop (j + 1)).nodes + 1 ≤ 100000 := by
                      have h1 := HLN.out
                      rw [hdr] at h1
                      rw [Fo.drop_step hdr]
                      simp only [Fo.nodes] at h1
                      omega
                    have hwd : D ≤ wr.heap.size := by have := HKR.out.size; have := HS1.out; omega
                    have hz : ∀ W', Keeps (fun _ => False) wr W' → Calls Try.prog 55 #[tv k1 n1 t1 cp1 cl1 cc1, tv k2 n2 t2 cp2 cl2 cc2, .slice lp' ll' lc'] W' (FitsX D A lp' ll' lc' (fit1 k1 n1 t1 s1 ⟨k2, n2, t2, s2⟩ L') W') := fun W' hk =>
                      HIH.out k1 n1 t1 s1 cp1 cl1 cc1 ⟨k2, n2, t2, s2⟩ cp2 cl2 cc2 L' lp' ll' lc' xs' W' (by have := Tv.kidNodes hdr; have := HN.out; omega) (hn1.tv.keeps hk (fun _ _ h => h)) (hn2.tv.keeps hk (fun _ _ h => h)) hsm (HI'.out.next hk) HLS'.out (by have := hk.size; omega) (by omega)
                    have HNX := Lib.hid (fitC_step (L := L') hdr hdr')
                    have hl1 := fit1_len k1 n1 t1 s1 ⟨k2, n2, t2, s2⟩ L'
                    have hsl : ∀ e ∈ (fit1 k1 n1 t1 s1 ⟨k2, n2, t2, s2⟩ L').1, e.2.small := fit1_small HLS'.out hsm
                    obtain ⟨⟨L2, b2⟩, hq⟩ : ∃ q, fit1 k1 n1 t1 s1 ⟨k2, n2, t2, s2⟩ L' = q := ⟨_, rfl⟩
                    rw [hq] at hz HNX hl1 hsl
                    have HZ := Lib.hid hz
                    have a0 := hn1.c0
                    have a1 := hn1.c1
                    have a2 := hn1.c2
                    have a3 := hn1.c3
                    have g0 := hn2.c0
                    have g1 := hn2.c1
                    have g2 := hn2.c2
                    have g3 := hn2.c3
                    have hi1 : (j : Int) < (cl : Int) := by omega
                    have hkbD := hA' kb hAk
                    have hkbD' := hA kb' hAk'
                    have hoD : ∀ b, (Value.slice lp' ll' lc').ownBlock = some b → D ≤ b ∧ b ≠ w.heap.size ∧ b ≠ w.heap.size + 1 := fun b hb => by
                      have := HS1.out
                      have := World.ownsRow.lt HI'.out.row b hb
                      rcases HOB.out b hb with h | h
                      · have := HOW.out b h; omega
                      · omega
                    have hwS := HKR.out.size
                    have hs1' := HS1.out
                    have HSC : Hid (∀ W', Keeps (fun b => (Value.slice lp' ll' lc').ownBlock = some b) wr W' → W'.cell? ⟨w.heap.size, 3, none⟩ = some (.slice (some ⟨kb, ko, none⟩) cl cc) ∧ W'.cell? ⟨kb, ko + j * 4, none⟩ = some (.string k1) ∧ W'.cell? ⟨kb, ko + j * 4 + 1, none⟩ = some (.int .i64 n1) ∧ W'.cell? ⟨kb, ko + j * 4 + 2, none⟩ = some (.string t1) ∧ W'.cell? ⟨kb, ko + j * 4 + 3, none⟩ = some (.slice cp1 cl1 cc1) ∧
                        W'.cell? ⟨w.heap.size + 1, 3, none⟩ = some (.slice (some ⟨kb', ko', none⟩) cl yc) ∧ W'.cell? ⟨kb', ko' + j * 4, none⟩ = some (.string k2) ∧ W'.cell? ⟨kb', ko' + j * 4 + 1, none⟩ = some (.int .i64 n2) ∧ W'.cell? ⟨kb', ko' + j * 4 + 2, none⟩ = some (.string t2) ∧ W'.cell? ⟨kb', ko' + j * 4 + 3, none⟩ = some (.slice cp2 cl2 cc2)) := Lib.hid fun W' hk => by
                      have e1 : ∀ i v, wr.cell? ⟨kb, i, none⟩ = some v → W'.cell? ⟨kb, i, none⟩ = some v := fun i v hv => (hk.cell (p := ⟨kb, i, none⟩) hkb (fun h => by have := hoD kb h; omega)).trans hv
                      have e2 : ∀ i v, wr.cell? ⟨kb', i, none⟩ = some v → W'.cell? ⟨kb', i, none⟩ = some v := fun i v hv => (hk.cell (p := ⟨kb', i, none⟩) hkb' (fun h => by have := hoD kb' h; omega)).trans hv
                      exact ⟨(hk.cell (p := ⟨w.heap.size, 3, none⟩) (by show w.heap.size < _; omega) (fun h => (hoD _ h).2.1 rfl)).trans c3, e1 _ _ a0, e1 _ _ a1, e1 _ _ a2, e1 _ _ a3,
                        (hk.cell (p := ⟨w.heap.size + 1, 3, none⟩) (by show w.heap.size + 1 < _; omega) (fun h => (hoD _ h).2.2 rfl)).trans d3, e2 _ _ g0, e2 _ _ g1, e2 _ _ g2, e2 _ _ g3⟩
                    have HND := Lib.hid hnd
                    have HL1 := Lib.hid hl1
                    have HSL := Lib.hid hsl
                    obtain ⟨V, hV⟩ : ∃ V, V = wr := ⟨_, rfl⟩
                    subst hV
                    clear hdr hdr' hn1 hn2 htr hyr hnd hl1 hq hsm hsl hz hwd hoD hwS hs1' hkbD hkbD' c0 c1 c2 d0 d1 d2
                    go_upto_region 18 with fail
                    clear c3 d3 a0 a1 a2 a3 g0 g1 g2 g3
                    have hk0 : Keeps (fun _ => False) V V := Keeps.refl _ _
                    have hk : Keeps (fun b => (Value.slice lp' ll' lc').ownBlock = some b) V V := Keeps.refl _ _
                    go_region_held3 (fun W' => W'.cell? ⟨w.heap.size, 3, none⟩ = some (.slice (some ⟨kb, ko, none⟩) cl cc) ∧ W'.cell? ⟨kb, ko + j * 4, none⟩ = some (.string k1) ∧ W'.cell? ⟨kb, ko + j * 4 + 1, none⟩ = some (.int .i64 n1) ∧ W'.cell? ⟨kb, ko + j * 4 + 2, none⟩ = some (.string t1) ∧ W'.cell? ⟨kb, ko + j * 4 + 3, none⟩ = some (.slice cp1 cl1 cc1) ∧
                        W'.cell? ⟨w.heap.size + 1, 3, none⟩ = some (.slice (some ⟨kb', ko', none⟩) cl yc) ∧ W'.cell? ⟨kb', ko' + j * 4, none⟩ = some (.string k2) ∧ W'.cell? ⟨kb', ko' + j * 4 + 1, none⟩ = some (.int .i64 n2) ∧ W'.cell? ⟨kb', ko' + j * 4 + 2, none⟩ = some (.string t2) ∧ W'.cell? ⟨kb', ko' + j * 4 + 3, none⟩ = some (.slice cp2 cl2 cc2)) (exact HSC.out _ (by repeat' (first | exact hk | refine Keeps.drew ?_))) ((go_simp; go_at_call 55; (with_reducible refine (HZ.out _ (by repeat' (first | exact hk0 | refine Keeps.drew ?_))).mono ?_); rintro e W7 ⟨lp7, ll7, lc7, xs7, rfl, hI7, hob7, hk7⟩; have hk := Keeps.trans (w := V) (by repeat' (first | exact hk | refine Keeps.drew ?_)) hk7))
                    all_goals
                      have hob7 : ∀ b, (Value.slice lp7 ll7 lc7).ownBlock = some b → (Value.slice lp' ll' lc').ownBlock = some b ∨ V.heap.size ≤ b := fun b hb => (hob7 b hb).imp id (fun h => by simpa using h)
                      have hk7 := hk
                      have HI7 := Lib.hid hI7
                      have HOB7 := Lib.hid hob7
                      have HK7 := Lib.hid hk7
                      clear hI7 hob7 hk7 hk hk0
                      go_wp2_with fail
                      go_roundg (gk - 1)
                      case measure => have := HJ.out; omega
                      case rel =>
                        refine ⟨j + 1, by have := HJ.out; omega, by go_num, L2, lp7, ll7, lc7, xs7, b2, rfl, rfl, HI7.out, HSL.out, by rw [HC.out, HNX.out], ?_, ?_, ?_⟩
                        · have h1 := HND.out
                          have h2 : L2.length ≤ L'.length + s1.nodes + 1 := HL1.out
                          omega
                        · intro x hx
                          rcases HOB7.out x hx with h | h
                          · exact HOB.out x h
                          · exact .inr (by have := HKR.out.size; omega)
                        · exact HKR.out.trans' HK7.out (fun x hx hl => by
                            rcases HOB.out x hx with h | h
                            · exact h
                            · omega)
                  | false =>
                    go_wp2_with fail
                    go_ret2
                    refine ⟨lp', ll', lc', xs', ?_, ?_, ?_, ?_⟩
                    · rw [hr.out, HC.out]; rfl
                    · rw [hr.out, HC.out]; exact HI'.out
                    · intro x hx
                      rcases HOB.out x hx with h | h
                      · exact .inl h
                      · exact .inr (by have := HS1.out; omega)
                    · exact (hK.mono (S' := fun b => (Value.slice lp ll lc).ownBlock = some b) (fun _ h _ => h.elim)).trans' HKR.out (fun x hx hl => hx)
                · have hd : Hid (fitFo c y.c L = (L', b)) := by
                    show _ = _
                    rw [HC.out, fitC_end (Fo.drop_len_le (by rw [HCL.out]; omega))]
                  go_wp2_with fail
                  go_ret2
                  refine ⟨lp', ll', lc', xs', ?_, ?_, ?_, ?_⟩
                  · rw [hr.out, hd.out]; rfl
                  · rw [hr.out, hd.out]; exact HI'.out
                  · intro x hx
                    rcases HOB.out x hx with h | h
                    · exact .inl h
                    · exact .inr (by have := HS1.out; omega)
                  · exact (hK.mono (S' := fun b => (Value.slice lp ll lc).ownBlock = some b) (fun _ h _ => h.elim)).trans' HKR.out (fun x hx hl => hx)
            · have hz0 : ((cl : Int) != (yl : Int)) = true := by simp; omega
              rw [hkk] at c0
              rw [hnn] at c1
              rw [htt] at c2
              have HL2 : Hid (c.len ≠ y.c.len) := by show _ ≠ _; rw [HCL.out, HYL.out]; exact hll2
              clear hkk hnn htt
              go_wp2_with fail
              go_ret2
              exact HNO.out _ HK2.out (fun h => HL2.out h.2.2.2)
          · have z := txt_ne htt
            rw [hkk] at c0
            rw [hnn] at c1
            have HTT := Lib.hid htt
            clear hkk hnn htt
            go_wp2_with fail
            go_ret2
            exact HNO.out _ HK2.out (fun h => HTT.out h.2.2.1)
        · have z := num_ne hnn
          rw [hkk] at c0
          have HNN := Lib.hid hnn
          clear hkk hnn
          go_wp2_with fail
          go_ret2
          exact HNO.out _ HK2.out (fun h => HNN.out h.2.1)
      · have z := txt_ne hkk
        have HKK := Lib.hid hkk
        clear hkk
        go_wp2_with fail
        go_ret2
        exact HNO.out _ HK2.out (fun h => HKK.out h.1)
end Go.Proofs.Ytccoihmibkpedaa
