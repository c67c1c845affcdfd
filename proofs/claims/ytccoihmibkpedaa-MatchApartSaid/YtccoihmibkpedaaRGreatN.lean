/-
  espalierref24.great at a node that is no variable; great as a whole.
-/
import Derived.Test.YtccoihmibkpedaaRGreatS

set_option linter.unusedVariables false

set_option linter.unusedSimpArgs false

namespace Go.Proofs.Ytccoihmibkpedaa

open Go.RowKit

attribute [local go_sem] Oper.semAt_some

set_option maxRecDepth 100000 in
set_option maxHeartbeats 6400000 in
theorem rgreat_none (bs : List Bind) (hbs : ∀ e ∈ bs, e.2.small) (bp : Option Addr) (bl bc : Nat) (hbc : bl ≤ bc) (hbc2 : bc ≤ 9223372036854775807) (N : Nat) (ih : ∀ (k : ByteArray) (n : Int) (t : ByteArray) (c : Fo) (A A' : Nat → Prop) (cp : Option Addr) (cl cc : Nat) (a : Int) (q : Cnt) (w : World), c.nodes < N → Tv w A k t c cp cl cc → BindsAt w A' bs bp bl → (∀ b, A' b → b < w.heap.size) → fitQ q → okC q = true → 1 ≤ a → a - 1 ≤ q.depth →
   Calls Try.prog 64 #[tv k n t cp cl cc, .slice bp bl bc, .int .i64 a, .agg (sumc q)] w (GreatR (great1 bs k t c a q) w)) (k : ByteArray) (n : Int) (t : ByteArray) (c : Fo) (A A' : Nat → Prop) (cp : Option Addr) (cl cc : Nat) (a : Int) (q : Cnt) (w : World) (hN : c.nodes < N + 1) (h : Tv w A k t c cp cl cc) (hB : BindsAt w A' bs bp bl) (hA' : ∀ b, A' b → b < w.heap.size) (hq : fitQ q) (hok : okC q = true) (ha1 : 1 ≤ a) (ha2 : a - 1 ≤ q.depth) (hv : varF k = none) :
   Calls Try.prog 64 #[tv k n t cp cl cc, .slice bp bl bc, .int .i64 a, .agg (sumc q)] w (GreatR (great1 bs k t c a q) w) := by
  have HVF := Lib.hid hv
  clear hv
  obtain ⟨Wp, hWp⟩ : ∃ W1, W1 = w.alloc (.cells (four k n t cp cl cc) T) := ⟨_, rfl⟩
  obtain ⟨Wq, hWq⟩ : ∃ W1, W1 = Wp.alloc (.cells (sumc q) TS) := ⟨_, rfl⟩
  obtain ⟨W1, hW1⟩ : ∃ W1, W1 = Wq.alloc (.cells (sumc ⟨0, 0, 0⟩) TS) := ⟨_, rfl⟩
  have hKp : Keeps (fun _ => False) w Wp := by rw [hWp]; exact (Keeps.refl _ w).alloc _
  have hKq : Keeps (fun _ => False) Wp Wq := by rw [hWq]; exact (Keeps.refl _ Wp).alloc _
  have hK1 : Keeps (fun _ => False) Wq W1 := by rw [hW1]; exact (Keeps.refl _ Wq).alloc _
  have hK := (hKp.trans hKq).trans hK1
  have hsp : Wp.heap.size = w.heap.size + 1 := by rw [hWp]; simp
  have hsq : Wq.heap.size = w.heap.size + 1 + 1 := by rw [hWq]; simp [hsp]
  have hs1 : W1.heap.size = w.heap.size + 1 + 1 + 1 := by rw [hW1]; simp [hsq]
  have hb1 : W1.heap[w.heap.size]? = some (.cells (four k n t cp cl cc) T (0, 0)) := by
    refine (hKq.trans hK1).heap ?_
    rw [hWp]; exact heap_alloc_new _ _
  have hb2 : W1.heap[w.heap.size + 1]? = some (.cells (sumc q) TS (0, 0)) := by
    refine hK1.heap ?_
    rw [hWq, ← hsp]; exact heap_alloc_new _ _
  have hb3 : W1.heap[w.heap.size + 1 + 1]? = some (.cells (sumc ⟨0, 0, 0⟩) TS (0, 0)) := by rw [hW1, ← hsq]; exact heap_alloc_new _ _
  have ht1 : Tv W1 (fun b => b < w.heap.size) k t c cp cl cc := h.top.next hK
  have hB1 := hB.next hK
  have hz := rVar_any k n t c cp cl cc _ W1 ht1
  have hts := h.size.1
  obtain ⟨c0, c1, c2, c3, _⟩ := box4 hb1
  have HW : Hid (W1 = ((w.alloc (.cells (four k n t cp cl cc) T)).alloc (.cells (sumc q) TS)).alloc (.cells (sumc ⟨0, 0, 0⟩) TS)) := Lib.hid (by rw [hW1, hWq, hWp])
  obtain ⟨hq1, hq2, hq3⟩ := hq
  obtain ⟨ho1, ho2, ho3⟩ := okC_iff.1 hok
  have HIH := Lib.hid ih
  have HB1 := Lib.hid hb1
  have HB2 := Lib.hid hb2
  have HB3 := Lib.hid hb3
  have HT1 := Lib.hid ht1
  have HBB := Lib.hid hB1
  have HS1 := Lib.hid hs1
  have HN := Lib.hid hN
  have HA' := Lib.hid hA'
  have HCL := Lib.hid h.len
  have HOK := Lib.hid hok
  have hlcc := h.lc
  have hccm := h.cm
  have HBS := Lib.hid hbs
  clear ih hW1 hWp hWq hb1 hb2 hb3 ht1 hs1 hN h hsp hsq hKp hKq hK1 hB hB1 hA' hok
  go_enter Try.func64, Try.ntmps64
  go_upto_region 1 with fail
  rw [← HW.out]
  go_wp2_with fail
  refine hz.mono ?_
  clear hz c0 c1 c2 c3
  rintro e W2 ⟨nm, rfl, hnm, hk2⟩
  have hv := HVF.out
  have hcon : Hid (great1 bs k t c a q = if okC (q.add a t) then greatFo bs c (a + 1) (q.add a t) else (q.add a t, false)) := by show _ = _; unfold great1; simp only [hv]
  obtain ⟨⟨v0, v1, v2⟩, f0, f1, f2⟩ := box3 (hk2.heap HB2.out)
  obtain ⟨c0, c1, c2, c3, _⟩ := box4 (hk2.heap HB1.out)
  have HV := Lib.hid (hk2.heap HB2.out)
  have HK2 := Lib.hid hk2
  rw [hv, Option.isSome_none]
  obtain ⟨Q, hQQ⟩ : ∃ Q, q.add a t = Q := ⟨_, rfl⟩
  rw [hQQ] at hcon
  have hQ : Q = ⟨q.nodes + 1, if q.depth < a then a else q.depth, q.bytes + t.size⟩ := by rw [← hQQ]; rfl
  have HQ := Lib.hid hQ
  clear hnm hv hk2 hQQ hQ
  go_upto_region 7 with fail
  go_cut [] from 17 (fun W => W.heap[w.heap.size + 1]? = some (.cells (sumc Q) TS (0, 0)) ∧ Keeps (fun b => b = w.heap.size + 1) W2 W)
  case first =>
    by_cases hmx : q.depth < a
    · have hqe : Q = ⟨q.nodes + 1, a, q.bytes + t.size⟩ := by rw [HQ.out, if_pos hmx]
      have HQE := Lib.hid hqe
      clear hqe
      go_wp2_with fail
      go_meet
      case rel => rw [HQE.out]; exact ⟨set3_heap (q' := ⟨q.nodes + 1, a, q.bytes + t.size⟩) HV.out, set3_keeps W2 (w.heap.size + 1) ⟨q.nodes + 1, a, q.bytes + t.size⟩⟩
    · have hqe : Q = ⟨q.nodes + 1, q.depth, q.bytes + t.size⟩ := by rw [HQ.out, if_neg hmx]
      have HQE := Lib.hid hqe
      clear hqe
      go_wp2_with fail
      go_meet
      case rel => rw [HQE.out]; exact ⟨set3_heap (q' := ⟨q.nodes + 1, q.depth, q.bytes + t.size⟩) HV.out, set3_keeps W2 (w.heap.size + 1) ⟨q.nodes + 1, q.depth, q.bytes + t.size⟩⟩
  case rest =>
    obtain ⟨W6, hW6⟩ : ∃ V, V = wc := ⟨_, rfl⟩
    subst hW6
    obtain ⟨hv6, hk6⟩ := hcut
    have hk16 : Keeps (fun b => b = w.heap.size + 1) W1 W6 := (HK2.out.mono (S' := fun b => b = w.heap.size + 1) (fun _ h _ => h.elim)).trans hk6
    have hfQ : fitQ Q := by
      rw [HQ.out]
      refine ⟨?_, ?_, ?_⟩ <;> simp only [ite_max] <;> omega
    have haQ : a ≤ Q.depth := by
      rw [HQ.out]
      simp only [ite_max]
      omega
    obtain ⟨Qn, Qd, Qb⟩ := Q
    obtain ⟨⟨v0, v1, v2⟩, f0, f1, f2⟩ := box3 hv6
    simp only at v0 v1 v2 haQ
    have HK16 := Lib.hid hk16
    have HV6 := Lib.hid hv6
    have HFQ := Lib.hid hfQ
    clear hv6 hk6 hk16 hfQ HQ HV HK2
    obtain ⟨b1, e1⟩ : ∃ b, decide (Qn ≤ 1024) = b := ⟨_, rfl⟩
    obtain ⟨b2, e2⟩ : ∃ b, decide (Qd ≤ 64) = b := ⟨_, rfl⟩
    obtain ⟨b3, e3⟩ : ∃ b, decide (Qb ≤ 16384) = b := ⟨_, rfl⟩
    have hok3 : Hid (okC ⟨Qn, Qd, Qb⟩ = (b1 && b2 && b3)) := by show _ = _; unfold okC; rw [e1, e2, e3]
    go_upto_region 8 with fail
    go_cut [17] from 18 (fun v W => v = .bool (b1 && b2 && b3) ∧ W6 = W)
    case first =>
      cases b1 <;> cases b2
      all_goals
        go_wp2_with fail
        go_meet
        case rel => exact ⟨by simp, rfl⟩
    case rest =>
      obtain ⟨rfl, rfl⟩ := hcut
      obtain ⟨b0, hb0⟩ : ∃ b, (b1 && b2 && b3) = b := ⟨_, rfl⟩
      rw [hb0] at hok3 ⊢
      have HG0 : Hid (great1 bs k t c a q = greatC bs b0 ⟨Qn, Qd, Qb⟩ c (a + 1)) := by show _ = _; rw [hcon.out, hok3.out]; rfl
      clear hb0 e1 e2 e3 v0 v1 v2 f0 f1 f2 hcon
      go_wp2_with fail
      go_loopg [17, 18] cl (fun m ok i W => ∃ j : Nat, j + m = cl ∧ i = .int .i64 j ∧ ∃ Q' b, ok = .bool b ∧ W.heap[w.heap.size + 1]? = some (.cells (sumc Q') TS (0, 0)) ∧ fitQ Q' ∧ (b = true → okC Q' = true ∧ a ≤ Q'.depth) ∧ great1 bs k t c a q = greatC bs b Q' (c.drop j) (a + 1) ∧ Keeps (fun b => b = w.heap.size + 1) W1 W)
      case atStart => exact ⟨0, by omega, rfl, ⟨Qn, Qd, Qb⟩, b0, rfl, HV6.out, HFQ.out, fun h => ⟨by rw [hok3.out, h], haQ⟩, HG0.out, HK16.out⟩
      case round =>
        obtain ⟨j, hjm, rfl, Q', b, rfl, hv, hfq, hbo, hG, hkr⟩ := hrel
        have hj0 : (0 : Int) ≤ (j : Int) := Int.natCast_nonneg _
        have hbx : wr.heap[w.heap.size]? = some (.cells (four k n t cp cl cc) T (0, 0)) := (hkr.block _ (by have := HS1.out; omega) (by omega)).trans HB1.out
        have hrx : wr.heap[w.heap.size + 1 + 1]? = some (.cells (sumc ⟨0, 0, 0⟩) TS (0, 0)) := (hkr.block _ (by have := HS1.out; omega) (by omega)).trans HB3.out
        obtain ⟨c0, c1, c2, c3, _⟩ := box4 hbx
        obtain ⟨⟨v0, v1, v2⟩, f0, f1, f2⟩ := box3 hv
        have HJ := Lib.hid hjm
        have HVR := Lib.hid hv
        have HFR := Lib.hid hfq
        have HBO := Lib.hid hbo
        have HG := Lib.hid hG
        have HKR := Lib.hid hkr
        have HRX := Lib.hid hrx
        clear hjm hv hfq hbo hG hkr hrx haQ
        by_cases hlt : j < cl
        · cases b with
          | true =>
            obtain ⟨hokQ, haQ⟩ := HBO.out rfl
            have htr := HT1.out.keeps HKR.out (fun b hb e => by omega)
            have hBr := HBB.out.keeps HKR.out (fun b hb e => by have := HA'.out b hb; omega)
            obtain ⟨kb, ko, rfl, hAk, hkb⟩ := htr.kids.hasAddr (by omega)
            obtain ⟨k1, n1, t1, s1, r1, hdr⟩ := Fo.drop_lt j c (by rw [HCL.out]; exact hlt)
            obtain ⟨cp1, cl1, cc1, hn1⟩ := htr.kids.at_ j hdr hlt
            have hsR := HKR.out.size
            have hs1' := HS1.out
            have hvl := heap_lt HVR.out
            have hih : ∀ W', Keeps (fun _ => False) wr W' → Calls Try.prog 64 #[tv k1 n1 t1 cp1 cl1 cc1, .slice bp bl bc, .int .i64 (a + 1), .agg (sumc Q')] W' fun e W2 => e = .returned (.tuple #[.agg (sumc (great1 bs k1 t1 s1 (a + 1) Q').1), .bool (great1 bs k1 t1 s1 (a + 1) Q').2]) ∧ Hid (Keeps (fun _ => False) wr W2) ∧
                ((W2.cell? ⟨w.heap.size + 1, 0, none⟩ = some (.int .i64 Q'.nodes) ∧ W2.cell? ⟨w.heap.size + 1, 1, none⟩ = some (.int .i64 Q'.depth) ∧ W2.cell? ⟨w.heap.size + 1, 2, none⟩ = some (.int .i64 Q'.bytes)) ∧ W2.frozen? ⟨w.heap.size + 1, 0, none⟩ = false ∧ W2.frozen? ⟨w.heap.size + 1, 1, none⟩ = false ∧ W2.frozen? ⟨w.heap.size + 1, 2, none⟩ = false) ∧
                W2.cell? ⟨w.heap.size, 3, none⟩ = some (.slice (some ⟨kb, ko, none⟩) cl cc) ∧ (W2.cell? ⟨kb, ko + j * 4, none⟩ = some (.string k1) ∧ W2.cell? ⟨kb, ko + j * 4 + 1, none⟩ = some (.int .i64 n1) ∧ W2.cell? ⟨kb, ko + j * 4 + 2, none⟩ = some (.string t1) ∧ W2.cell? ⟨kb, ko + j * 4 + 3, none⟩ = some (.slice cp1 cl1 cc1)) := by
              intro W' hk1
              refine (HIH.out k1 n1 t1 s1 (fun b => b < w.heap.size) A' cp1 cl1 cc1 (a + 1) Q' W' (by have := Tv.kidNodes hdr; have := HN.out; omega) (hn1.tv.keeps hk1 (fun _ _ h => h)) (hBr.next hk1) (fun b hb => by have := HA'.out b hb; have := hk1.size; omega) HFR.out hokQ (by omega) (by omega)).mono ?_
              rintro e W2 ⟨rfl, hk2⟩
              have hk := hk1.trans hk2
              have e1 : ∀ i v, wr.cell? ⟨kb, i, none⟩ = some v → W2.cell? ⟨kb, i, none⟩ = some v := fun i v hv => (hk.cell (p := ⟨kb, i, none⟩) hkb (fun h => h)).trans hv
              exact ⟨rfl, hk, box3 (hk.heap HVR.out), (hk.cell (p := ⟨w.heap.size, 3, none⟩) (by show w.heap.size < _; omega) (fun h => h)).trans c3, e1 _ _ hn1.c0, e1 _ _ hn1.c1, e1 _ _ hn1.c2, e1 _ _ hn1.c3⟩
            have hzok := fun h => great1_ok (bs := bs) (k := k1) (t := t1) (c := s1) (a := a + 1) hokQ (by omega) h
            have hzf := great1_fit (bs := bs) (k := k1) (t := t1) (c := s1) (a := a + 1) HFR.out
            have HNX := Lib.hid (greatC_step (bs := bs) (q := Q') (a := a + 1) hdr)
            obtain ⟨⟨Z, zb⟩, hz⟩ : ∃ z, great1 bs k1 t1 s1 (a + 1) Q' = z := ⟨_, rfl⟩
            rw [hz] at hih hzok hzf HNX
            have a0 := hn1.c0
            have a1 := hn1.c1
            have a2 := hn1.c2
            have a3 := hn1.c3
            have hi1 : (j : Int) < (cl : Int) := by omega
            have ha65 : a ≤ 64 := by have := okC_iff.1 hokQ; omega
            have HIHH := Lib.hid hih
            have HZO := Lib.hid hzok
            have HZF := Lib.hid hzf
            have hkd : Keeps (fun _ => False) wr wr.drew := (Keeps.refl _ wr).drew
            obtain ⟨Zn, Zd, Zb⟩ := Z
            clear hdr hn1 htr hBr hbx hih hz hzok hzf hokQ haQ
            have hwa : IntKind.i64.wrap (a + 1) = a + 1 := IntWalk.i64_in _ (by omega)
            go_wp2_with fail
            go_region_law ((go_simp; go_at_call 64; refine (HIHH.out _ hkd).mono ?_; rintro e W2 ⟨rfl, hH, ⟨⟨y0, y1, y2⟩, z0, z1, z2⟩, hc2, ha0, ha1, ha2, ha3⟩))
            all_goals clear hwa
            all_goals go_wp2_with fail
            all_goals
              go_roundg (gk - 1)
              case measure => have := HJ.out; omega
              case rel =>
                refine ⟨j + 1, by have := HJ.out; omega, by go_num, ⟨Zn, Zd, Zb⟩, zb, rfl, set3_heap (q' := ⟨Zn, Zd, Zb⟩) (hH.out.heap HVR.out), HZF.out, fun h => ?_, by rw [HG.out, HNX.out], ?_⟩
                · obtain ⟨x1, x2⟩ := HZO.out h
                  have x3 : a + 1 - 1 ≤ Zd := x2
                  exact ⟨x1, by show a ≤ Zd; omega⟩
                · exact (HKR.out.trans' hH.out (fun b hb _ => hb.elim)).trans' (set3_keeps W2 (w.heap.size + 1) ⟨Zn, Zd, Zb⟩) (fun b hb _ => hb)
          | false =>
            have hend : Hid (great1 bs k t c a q = (Q', false)) := by show _ = _; rw [HG.out]; rfl
            have hsR := HKR.out.size
            have hfin : GreatR (great1 bs k t c a q) w (.returned (.tuple #[.agg (sumc Q'), .bool false])) (set3 wr (w.heap.size + 1 + 1) Q') := by
              rw [hend.out]
              exact ⟨rfl, (hK.trans' HKR.out (fun b hb hl => by omega)).trans' (set3_keeps _ _ _) (fun b hb hl => by omega)⟩
            obtain ⟨⟨r0, r1, r2⟩, g0, g1, g2⟩ := box3 HRX.out
            obtain ⟨⟨z0, z1, z2⟩, _⟩ := box3 (set3_heap (q' := Q') HRX.out)
            have HFIN := Lib.hid hfin
            obtain ⟨Zn, Zd, Zb⟩ := Q'
            simp only at v0 v1 v2 z0 z1 z2
            have HZZ := Lib.hid (And.intro z0 (And.intro z1 z2))
            clear hfin hbx z0 z1 z2 hsR c0 c1 c2
            go_upto_region 13 with fail
            simp only at r0 r1 r2
            clear hj0 hlcc hccm hbc hbc2 hts ho1 ho2 ho3 hq1 hq2 hq3 ha1 ha2 hlt c3 HBO HG HKR HRX HIH HT1 HBB HJ HVR HFR HN HA' HBS HB1 HB2 HB3 HCL HOK
            go_wp2_with fail
            obtain ⟨z0, z1, z2⟩ := HZZ.out
            refine bodyPost_ret (v := .tuple #[.agg (sumc ⟨Zn, Zd, Zb⟩), .bool false]) (by simp [results, Try.results64, go_sem, z0, z1, z2]) rfl ?_
            exact HFIN.out
        · have hend : Hid (great1 bs k t c a q = (Q', b)) := by show _ = _; rw [HG.out, greatC_end (Fo.drop_len_le (by rw [HCL.out]; omega))]
          have hsR := HKR.out.size
          have hfin : GreatR (great1 bs k t c a q) w (.returned (.tuple #[.agg (sumc Q'), .bool b])) (set3 wr (w.heap.size + 1 + 1) Q') := by
            rw [hend.out]
            exact ⟨rfl, (hK.trans' HKR.out (fun b hb hl => by omega)).trans' (set3_keeps _ _ _) (fun b hb hl => by omega)⟩
          obtain ⟨⟨r0, r1, r2⟩, g0, g1, g2⟩ := box3 HRX.out
          obtain ⟨⟨z0, z1, z2⟩, _⟩ := box3 (set3_heap (q' := Q') HRX.out)
          have HFIN := Lib.hid hfin
          obtain ⟨Zn, Zd, Zb⟩ := Q'
          simp only at v0 v1 v2 z0 z1 z2
          have HZZ := Lib.hid (And.intro z0 (And.intro z1 z2))
          clear hfin hbx z0 z1 z2 hsR c0 c1 c2
          go_upto_region 13 with fail
          simp only at r0 r1 r2
          clear hj0 hlcc hccm hbc hbc2 hts ho1 ho2 ho3 hq1 hq2 hq3 ha1 ha2 hlt c3 HBO HG HKR HRX HIH HT1 HBB HJ HVR HFR HN HA' HBS HB1 HB2 HB3 HCL HOK
          go_wp2_with fail
          obtain ⟨z0, z1, z2⟩ := HZZ.out
          refine bodyPost_ret (v := .tuple #[.agg (sumc ⟨Zn, Zd, Zb⟩), .bool b]) (by simp [results, Try.results64, go_sem, z0, z1, z2]) rfl ?_
          exact HFIN.out
theorem rgreat_any (bs : List Bind) (hbs : ∀ e ∈ bs, e.2.small) (bp : Option Addr) (bl bc : Nat) (hbc : bl ≤ bc) (hbc2 : bc ≤ 9223372036854775807) : ∀ (N : Nat) (k : ByteArray) (n : Int) (t : ByteArray) (c : Fo) (A A' : Nat → Prop) (cp : Option Addr) (cl cc : Nat) (a : Int) (q : Cnt) (w : World), c.nodes < N → Tv w A k t c cp cl cc → BindsAt w A' bs bp bl → (∀ b, A' b → b < w.heap.size) → fitQ q → okC q = true → 1 ≤ a → a - 1 ≤ q.depth →
   Calls Try.prog 64 #[tv k n t cp cl cc, .slice bp bl bc, .int .i64 a, .agg (sumc q)] w (GreatR (great1 bs k t c a q) w) := by
  intro N
  induction N with
  | zero => intros; omega
  | succ N ih =>
    intro k n t c A A' cp cl cc a q w hN h hB hA' hq hok ha1 ha2
    cases hv : varF k with
    | some nm => exact rgreat_some bs hbs bp bl bc hbc hbc2 k n t c A A' cp cl cc a q w h hB hA' hq hok ha1 ha2 nm hv
    | none => exact rgreat_none bs hbs bp bl bc hbc hbc2 N ih k n t c A A' cp cl cc a q w hN h hB hA' hq hok ha1 ha2 hv
end Go.Proofs.Ytccoihmibkpedaa
