/-
  espalierref24.great: its walk.
-/
import Derived.Test.YtccoihmibkpedaaRGreatP

import Derived.Test.YtccoihmibkpedaaOver

import Derived.BigRegion

set_option linter.unusedVariables false

set_option linter.unusedSimpArgs false

namespace Go.Proofs.Ytccoihmibkpedaa

open Go.RowKit

attribute [local go_sem] Oper.semAt_some

abbrev TS : TypeId := 109
abbrev sumc (q : Cnt) : Array Value := #[.int .i64 q.nodes, .int .i64 q.depth, .int .i64 q.bytes]
theorem box3 {W : World} {b : Nat} {q : Cnt} (h : W.heap[b]? = some (.cells (sumc q) TS (0, 0))) :
    (W.cell? ⟨b, 0, none⟩ = some (.int .i64 q.nodes) ∧ W.cell? ⟨b, 1, none⟩ = some (.int .i64 q.depth) ∧ W.cell? ⟨b, 2, none⟩ = some (.int .i64 q.bytes)) ∧ W.frozen? ⟨b, 0, none⟩ = false ∧ W.frozen? ⟨b, 1, none⟩ = false ∧ W.frozen? ⟨b, 2, none⟩ = false := by
  simp [World.cell?, World.frozen?, h]
abbrev set3 (W : World) (b : Nat) (q : Cnt) : World := ((W.setCell ⟨b, 0, none⟩ (.int .i64 q.nodes)).setCell ⟨b, 1, none⟩ (.int .i64 q.depth)).setCell ⟨b, 2, none⟩ (.int .i64 q.bytes)
theorem set3_heap {W : World} {b : Nat} {q q' : Cnt} (h : W.heap[b]? = some (.cells (sumc q) TS (0, 0))) : (set3 W b q').heap[b]? = some (.cells (sumc q') TS (0, 0)) := by
  rw [heap_set (heap_set (heap_set h _ _) _ _) _ _]; rfl
theorem set3_keeps (W : World) (b : Nat) (q : Cnt) : Keeps (fun x => x = b) W (set3 W b q) :=
  (((Keeps.refl (fun x => x = b) W).setCell (p := ⟨b, 0, none⟩) (fun _ => rfl) _).setCell (p := ⟨b, 1, none⟩) (fun _ => rfl) _).setCell (p := ⟨b, 2, none⟩) (fun _ => rfl) _
def GreatR (z : Cnt × Bool) (w : World) (e : Ending) (w' : World) : Prop := e = .returned (.tuple #[.agg (sumc z.1), .bool z.2]) ∧ Keeps (fun _ => False) w w'
theorem yB_small {bs : List Bind} (h : ∀ e ∈ bs, e.2.small) (nm : ByteArray) : (yB bs nm).small := by
  unfold yB
  cases hb : bget bs nm with
  | none => decide
  | some y => exact h _ (bget_some hb).2
set_option maxRecDepth 100000 in
set_option maxHeartbeats 3200000 in
theorem rgreat_some (bs : List Bind) (hbs : ∀ e ∈ bs, e.2.small) (bp : Option Addr) (bl bc : Nat) (hbc : bl ≤ bc) (hbc2 : bc ≤ 9223372036854775807) (k : ByteArray) (n : Int) (t : ByteArray) (c : Fo) (A A' : Nat → Prop) (cp : Option Addr) (cl cc : Nat) (a : Int) (q : Cnt) (w : World) (h : Tv w A k t c cp cl cc) (hB : BindsAt w A' bs bp bl) (hA' : ∀ b, A' b → b < w.heap.size) (hq : fitQ q) (hok : okC q = true) (ha1 : 1 ≤ a) (ha2 : a - 1 ≤ q.depth) (nm' : ByteArray) (hv : varF k = some nm') :
   Calls Try.prog 64 #[tv k n t cp cl cc, .slice bp bl bc, .int .i64 a, .agg (sumc q)] w (GreatR (great1 bs k t c a q) w) := by
  have HVF := Lib.hid hv
  clear hv
  obtain ⟨Wp, hWp⟩ : ∃ W1, W1 = w.alloc (.cells (four k n t cp cl cc) T) := ⟨_, rfl⟩
  obtain ⟨Wq, hWq⟩ : ∃ W1, W1 = Wp.alloc (.cells (sumc q) TS) := ⟨_, rfl⟩
  obtain ⟨W1, hW1⟩ : ∃ W1, W1 = Wq.alloc (.cells (sumc ⟨0, 0, 0⟩) TS) := ⟨_, rfl⟩
  have hKp : Keeps (fun _ => False) w Wp := by rw [hWp]; exact (Keeps.refl _ w).alloc _
  have hKq : Keeps (fun _ => False) Wp Wq := by rw [hWq]; exact (Keeps.refl _ Wp).alloc _
  have hK1 : Keeps (fun _ => False) Wq W1 := by rw [hW1]; exact (Keeps.refl _ Wq).alloc _
  have hK := (hKp.trans hKq).trans hK1
  have hsp : Wp.heap.size = w.heap.size + 1 := by rw [hWp]; simp
  have hsq : Wq.heap.size = w.heap.size + 1 + 1 := by rw [hWq]; simp [hsp]
  have hs1 : W1.heap.size = w.heap.size + 1 + 1 + 1 := by rw [hW1]; simp [hsq]
  have hb1 : W1.heap[w.heap.size]? = some (.cells (four k n t cp cl cc) T (0, 0)) := by
    refine (hKq.trans hK1).heap ?_
    rw [hWp]; exact heap_alloc_new _ _
  have hb2 : W1.heap[w.heap.size + 1]? = some (.cells (sumc q) TS (0, 0)) := by
    refine hK1.heap ?_
    rw [hWq, ← hsp]; exact heap_alloc_new _ _
  have hb3 : W1.heap[w.heap.size + 1 + 1]? = some (.cells (sumc ⟨0, 0, 0⟩) TS (0, 0)) := by rw [hW1, ← hsq]; exact heap_alloc_new _ _
  have ht1 : Tv W1 (fun b => b < w.heap.size) k t c cp cl cc := h.top.next hK
  have hB1 := hB.next hK
  have hz := rVar_any k n t c cp cl cc _ W1 ht1
  have hts := h.size.1
  obtain ⟨c0, c1, c2, c3, _⟩ := box4 hb1
  have HW : Hid (W1 = ((w.alloc (.cells (four k n t cp cl cc) T)).alloc (.cells (sumc q) TS)).alloc (.cells (sumc ⟨0, 0, 0⟩) TS)) := Lib.hid (by rw [hW1, hWq, hWp])
  obtain ⟨hq1, hq2, hq3⟩ := hq
  obtain ⟨ho1, ho2, ho3⟩ := okC_iff.1 hok
  have HB1 := Lib.hid hb1
  have HB2 := Lib.hid hb2
  have HB3 := Lib.hid hb3
  have HT1 := Lib.hid ht1
  have HBB := Lib.hid hB1
  have HS1 := Lib.hid hs1
  have HA' := Lib.hid hA'
  have HCL := Lib.hid h.len
  have HOK := Lib.hid hok
  have hlcc := h.lc
  have hccm := h.cm
  have HBS := Lib.hid hbs
  clear hW1 hWp hWq hb1 hb2 hb3 ht1 hs1 h hsp hsq hKp hKq hK1 hB hB1 hA' hok
  go_enter Try.func64, Try.ntmps64
  go_upto_region 1 with fail
  rw [← HW.out]
  go_wp2_with fail
  refine hz.mono ?_
  clear hz c0 c1 c2 c3
  rintro e W2 ⟨nm, rfl, hnm, hk2⟩
  have hv := HVF.out
  obtain rfl := hnm nm' hv
  have hf : Hid (great1 bs k t c a q = (addV q a (yB bs nm), okC (addV q a (yB bs nm)))) := by show _ = _; unfold great1; simp only [hv]
  have hys := yB_small HBS.out nm
  have hz := bound_any bs nm bp bl bc _ W2 (HBB.out.next hk2) (fun b hb => by have := HA'.out b hb; have := hk2.size; have := HS1.out; omega) hbc hbc2
  rw [hv, Option.isSome_some]
  have HK2 := Lib.hid hk2
  clear hnm hv hk2
  go_wp2_with fail
  refine hz.mono ?_
  clear hz
  rintro e W3 hbr
  obtain ⟨y, yp, yl, yc, Ay, bv, hy, rfl, hty, hk3⟩ : ∃ (y : Nd) (yp : Option Addr) (yl yc : Nat) (Ay : Nat → Prop) (bv : Bool), yB bs nm = y ∧ e = .returned (.tuple #[tv y.k y.n y.t yp yl yc, .bool bv]) ∧ Tv W3 Ay y.k y.t y.c yp yl yc ∧ Keeps (fun _ => False) W2 W3 := by
    rcases hbr with ⟨y, yp, yl, yc, hbg, rfl, hty, hk3⟩ | ⟨hbg, rfl, hk3⟩
    · exact ⟨y, yp, yl, yc, _, true, by unfold yB; rw [hbg]; rfl, rfl, hty, hk3⟩
    · exact ⟨⟨e0, 0, e0, .nil⟩, none, 0, 0, fun _ => False, false, by unfold yB; rw [hbg]; rfl, rfl, ⟨⟨by decide, by decide⟩, Nat.le_refl _, by omega, rfl⟩, hk3⟩
  rw [hy] at hf hys
  have hk4 := (Keeps.refl (fun _ => False) W3).alloc (.cells (four y.k y.n y.t yp yl yc) T)
  have hz := rSize_any y.k y.n y.t y.c yp yl yc _ _ (hty.next hk4)
  rw [sizeR_eq y, if_pos hys] at hz
  have HK4 := Lib.hid (HK2.out.trans (hk3.trans hk4))
  obtain ⟨yn, hyn⟩ : ∃ v, y.nodes = v := ⟨_, rfl⟩
  obtain ⟨yd, hyd⟩ : ∃ v, y.depth = v := ⟨_, rfl⟩
  obtain ⟨yb, hyb⟩ : ∃ v, y.bytes = v := ⟨_, rfl⟩
  have hys' : yn ≤ 1024 ∧ yd ≤ 64 ∧ yb ≤ 16384 := by rw [← hyn, ← hyd, ← hyb]; exact hys
  obtain ⟨l1, l2, l3⟩ := hys'
  rw [hyn, hyd, hyb] at hz
  have hQ : Hid (addV q a y = ⟨q.nodes + yn, if q.depth < a + yd - 1 then a + yd - 1 else q.depth, q.bytes + yb⟩) := by show _ = _; unfold addV; rw [hyn, hyd, hyb]
  clear hbr hy hty hk3 hk4 hyn hyd hyb hys
  go_wp2_with fail
  refine hz.mono ?_
  clear hz
  rintro e W5 ⟨rfl, hk5⟩
  have hK5 := HK4.out.trans hk5
  obtain ⟨⟨v0, v1, v2⟩, f0, f1, f2⟩ := box3 (hK5.heap HB2.out)
  have HV := Lib.hid (hK5.heap HB2.out)
  have HR := Lib.hid (hK5.heap HB3.out)
  have HK5 := Lib.hid hK5
  clear hk5 hK5
  obtain ⟨Q, hQQ⟩ : ∃ Q, addV q a y = Q := ⟨_, rfl⟩
  rw [hQQ] at hQ hf
  have hQ1 : Q.nodes = q.nodes + yn := by rw [hQ.out]
  have hQ2 : Q.depth = if q.depth < a + yd - 1 then a + yd - 1 else q.depth := by rw [hQ.out]
  have hQ3 : Q.bytes = q.bytes + yb := by rw [hQ.out]
  have HQ1 := Lib.hid hQ1
  have HQ2 := Lib.hid hQ2
  have HQ3 := Lib.hid hQ3
  clear hQQ hQ1 hQ2 hQ3 hQ
  go_upto_region 5 with fail
  go_cut [] from 17 (fun W => W5.heap.size ≤ W.heap.size ∧ W.heap[w.heap.size + 1]? = some (.cells (sumc Q) TS (0, 0)) ∧ Keeps (fun b => b = w.heap.size + 1) W5 W)
  case first =>
    have hll : w.heap.size + 1 < W5.heap.size := heap_lt HV.out
    by_cases hmx : q.depth < a + (yd : Int) - 1
    · have hqe : Q = ⟨q.nodes + yn, a + (yd : Int) - 1, q.bytes + yb⟩ := by
        have h1 := HQ1.out
        have h2 := HQ2.out
        have h3 := HQ3.out
        rw [if_pos hmx] at h2
        cases Q
        simp only at h1 h2 h3
        rw [h1, h2, h3]
      have HQE := Lib.hid hqe
      clear hqe
      go_wp2_with fail
      go_meet
      case rel => rw [HQE.out]; exact ⟨(set3_keeps W5 (w.heap.size + 1) ⟨q.nodes + yn, a + (yd : Int) - 1, q.bytes + yb⟩).size, set3_heap (q' := ⟨q.nodes + yn, a + (yd : Int) - 1, q.bytes + yb⟩) HV.out, set3_keeps W5 (w.heap.size + 1) ⟨q.nodes + yn, a + (yd : Int) - 1, q.bytes + yb⟩⟩
    · have hqe : Q = ⟨q.nodes + yn, q.depth, q.bytes + yb⟩ := by
        have h1 := HQ1.out
        have h2 := HQ2.out
        have h3 := HQ3.out
        rw [if_neg hmx] at h2
        cases Q
        simp only at h1 h2 h3
        rw [h1, h2, h3]
      have HQE := Lib.hid hqe
      clear hqe
      go_wp2_with fail
      go_meet
      case rel => rw [HQE.out]; exact ⟨(set3_keeps W5 (w.heap.size + 1) ⟨q.nodes + yn, q.depth, q.bytes + yb⟩).size, set3_heap (q' := ⟨q.nodes + yn, q.depth, q.bytes + yb⟩) HV.out, set3_keeps W5 (w.heap.size + 1) ⟨q.nodes + yn, q.depth, q.bytes + yb⟩⟩
  case rest =>
    obtain ⟨W6, hW6⟩ : ∃ V, V = wc := ⟨_, rfl⟩
    subst hW6
    obtain ⟨hs6, hv6, hk6⟩ := hcut
    have hr6 := (hk6.block _ (heap_lt HR.out) (by omega)).trans HR.out
    have hK6 : Keeps (fun _ => False) w W6 := (hK.trans HK5.out).trans' hk6 (fun b hb hl => by omega)
    obtain ⟨⟨v0, v1, v2⟩, f0, f1, f2⟩ := box3 hv6
    obtain ⟨⟨r0, r1, r2⟩, g0, g1, g2⟩ := box3 hr6
    have hfin : GreatR (great1 bs k t c a q) w (.returned (.tuple #[.agg (sumc Q), .bool (okC Q)])) (set3 W6 (w.heap.size + 1 + 1) Q) := by
      rw [hf.out]
      exact ⟨rfl, hK6.trans' (set3_keeps _ _ _) (fun b hb hl => by omega)⟩
    have hfd : GreatR (great1 bs k t c a q) w (.returned (.tuple #[.agg (sumc Q), .bool (okC Q)])) (set3 W6 (w.heap.size + 1 + 1) Q).drew := ⟨hfin.1, hfin.2.drew⟩
    obtain ⟨⟨z0, z1, z2⟩, _⟩ := box3 (set3_heap (q' := Q) hr6)
    have HFD := Lib.hid hfd
    have HKK := Lib.hid hfin
    have h1 : Hid (okC Q = (decide (Q.nodes ≤ 1024) && decide (Q.depth ≤ 64) && decide (Q.bytes ≤ 16384))) := Lib.hid rfl
    obtain ⟨Qn, Qd, Qb⟩ := Q
    simp only at v0 v1 v2 z0 z1 z2 h1
    clear hs6 hv6 hk6 hr6 hfin hfd HQ1 HQ2 HQ3
    obtain ⟨b1, e1⟩ : ∃ b, decide (Qn ≤ 1024) = b := ⟨_, rfl⟩
    obtain ⟨b2, e2⟩ : ∃ b, decide (Qd ≤ 64) = b := ⟨_, rfl⟩
    obtain ⟨b3, e3⟩ : ∃ b, decide (Qb ≤ 16384) = b := ⟨_, rfl⟩
    have hok3 : Hid (okC ⟨Qn, Qd, Qb⟩ = (b1 && b2 && b3)) := by show _ = _; rw [h1.out, e1, e2, e3]
    clear h1
    have HSV : Hid (∀ W', Keeps (fun b => b = w.heap.size + 1 + 1) W6 W' → W'.cell? ⟨w.heap.size + 1, 0, none⟩ = some (.int .i64 Qn) ∧ W'.cell? ⟨w.heap.size + 1, 1, none⟩ = some (.int .i64 Qd) ∧ W'.cell? ⟨w.heap.size + 1, 2, none⟩ = some (.int .i64 Qb)) := Lib.hid fun W' hk => by
      have hl := World.block_lt_of_cell? W6 _ v0
      have e : ∀ i v, W6.cell? ⟨w.heap.size + 1, i, none⟩ = some v → W'.cell? ⟨w.heap.size + 1, i, none⟩ = some v := fun i v hv => (hk.cell (p := ⟨w.heap.size + 1, i, none⟩) hl (by show ¬ _; simp)).trans hv
      exact ⟨e _ _ v0, e _ _ v1, e _ _ v2⟩
    have hk : Keeps (fun b => b = w.heap.size + 1 + 1) W6 W6 := Keeps.refl _ _
    clear HSV hk
    cases b1 with
    | false =>
      go_wp2_with fail
      go_region
      all_goals
        go_wp2_with fail
        refine bodyPost_ret (v := .tuple #[.agg (sumc ⟨Qn, Qd, Qb⟩), .bool (okC ⟨Qn, Qd, Qb⟩)]) (by rw [hok3.out]; simp [results, Try.results64, go_sem, z0, z1, z2]) rfl ?_
        first | exact HFD.out | exact HKK.out
    | true =>
      cases b2 with
      | false =>
        go_wp2_with fail
        go_region
        all_goals
          go_wp2_with fail
          refine bodyPost_ret (v := .tuple #[.agg (sumc ⟨Qn, Qd, Qb⟩), .bool (okC ⟨Qn, Qd, Qb⟩)]) (by rw [hok3.out]; simp [results, Try.results64, go_sem, z0, z1, z2]) rfl ?_
          first | exact HFD.out | exact HKK.out
      | true =>
        go_wp2_with fail
        go_region
        all_goals
          go_wp2_with fail
          refine bodyPost_ret (v := .tuple #[.agg (sumc ⟨Qn, Qd, Qb⟩), .bool (okC ⟨Qn, Qd, Qb⟩)]) (by rw [hok3.out]; simp [results, Try.results64, go_sem, z0, z1, z2]) rfl ?_
          first | exact HFD.out | exact HKK.out
end Go.Proofs.Ytccoihmibkpedaa
