/-
  espalierref24.Var, like, bound: their walks.
-/
import Derived.Test.YtccoihmibkpedaaPkF

set_option linter.unusedVariables false

set_option linter.unusedSimpArgs false

namespace Go.Proofs.Ytccoihmibkpedaa

open Go.RowKit

set_option maxRecDepth 100000 in
theorem rVar_any (k : ByteArray) (n : Int) (t : ByteArray) (c : Fo) (cp : Option Addr) (cl cc : Nat) (A : Nat → Prop) (w : World) (h : Tv w A k t c cp cl cc) :
    Calls Try.prog 99 #[tv k n t cp cl cc] w (VarR k w) := by
  obtain ⟨W1, hW1⟩ : ∃ W1, W1 = w.alloc (.cells (four k n t cp cl cc) T) := ⟨_, rfl⟩
  have hK : Keeps (fun _ => False) w W1 := by rw [hW1]; exact (Keeps.refl _ w).alloc _
  have hb1 : W1.heap[w.heap.size]? = some (.cells (four k n t cp cl cc) T (0, 0)) := by rw [hW1]; exact heap_alloc_new _ _
  have hk := rKind_full k W1 h.size.2
  obtain ⟨c0, c1, c2, c3, _⟩ := box4 hb1
  obtain ⟨kb, hkb⟩ : ∃ b, kindB k.data.toList = b := ⟨_, rfl⟩
  unfold KindS at hk
  rw [hkb] at hk
  have HK := Lib.hid hkb
  have HW := Lib.hid hW1
  clear hkb hb1 h hW1
  go_enter Try.func99, Try.ntmps99
  go_upto_region 1 with fail
  rw [← HW.out]
  go_wp2_with fail
  refine hk.mono ?_
  clear hk c0 c1 c2 c3
  rintro e W ⟨a, b, rfl, hab, hkw⟩
  have hkw := hK.trans hkw
  cases kb with
  | false =>
    have hv : Hid (varF k = none) := by show varF k = none; rw [varF, if_neg (by rw [HK.out]; simp)]
    clear hab
    go_wp2_with fail
    go_ret2
    exact ⟨_, by rw [hv.out]; rfl, fun nm h => by rw [hv.out] at h; simp at h, hkw⟩
  | true =>
    obtain ⟨ha, hb⟩ := hab rfl
    have HB := Lib.hid hb
    clear hab hb
    by_cases hc : a = anyK
    · have hv : Hid (varF k = some b) := by show varF k = some b; rw [varF, if_pos ⟨HK.out, by rw [← ha, hc]⟩, HB.out]
      clear ha
      subst hc
      go_wp2_with fail
      go_ret2
      exact ⟨_, by rw [hv.out]; rfl, fun nm h => by rw [hv.out] at h; simpa using h, hkw⟩
    · have hv : Hid (varF k = none) := by show varF k = none; rw [varF, if_neg (fun h => hc (ha.trans h.2))]
      have hne : (a.toList == [97, 110, 121]) = false := by
        have := txt_ne hc
        rwa [show anyK.toList = [97, 110, 121] by rw [ByteArray.toList_eq]] at this
      clear ha hc
      go_wp2_with fail
      go_ret2
      exact ⟨_, by rw [hv.out]; rfl, fun nm h => by rw [hv.out] at h; simp at h, hkw⟩
set_option maxRecDepth 100000 in
theorem rLike_any (k : ByteArray) (m : Int) (t : ByteArray) (c : Fo) (cp : Option Addr) (cl cc : Nat) (A : Nat → Prop) (n : Int) (tx : ByteArray) (w : World) (h : Tv w A k t c cp cl cc) :
    Calls Try.prog 100 #[tv k m t cp cl cc, .int .i64 n, .string tx] w fun e w' => e = .returned (.bool (likeF n tx ⟨k, m, t, c⟩)) ∧ Keeps (fun _ => False) w w' := by
  obtain ⟨W1, hW1⟩ : ∃ W1, W1 = w.alloc (.cells (four k m t cp cl cc) T) := ⟨_, rfl⟩
  have hK : Keeps (fun _ => False) w W1 := by rw [hW1]; exact (Keeps.refl _ w).alloc _
  have hb1 : W1.heap[w.heap.size]? = some (.cells (four k m t cp cl cc) T (0, 0)) := by rw [hW1]; exact heap_alloc_new _ _
  have hcl := h.len
  obtain ⟨c0, c1, c2, c3, _⟩ := box4 hb1
  have HCL := Lib.hid hcl
  have HW := Lib.hid hW1
  clear hcl hb1 h hW1
  by_cases h0 : n = 0
  · subst h0
    go_enter Try.func100, Try.ntmps100
    go_upto_region 1 with fail
    rw [← HW.out]
    go_wp2_with fail
    go_ret
    exact ⟨by simp [likeF], hK⟩
  · have z0 := num_nb h0
    by_cases h1 : n = 1
    · subst h1
      by_cases hc : cl = 0
      · subst hc
        have hv : Hid (likeF 1 tx ⟨k, m, t, c⟩ = true) := by show _ = _; simp [likeF, HCL.out]
        go_enter Try.func100, Try.ntmps100
        go_upto_region 1 with fail
        rw [← HW.out]
        go_wp2_with fail
        go_ret
        exact ⟨by rw [hv.out]; rfl, hK⟩
      · have hz : ((cl : Int) == 0) = false := by simp; omega
        have hv : Hid (likeF 1 tx ⟨k, m, t, c⟩ = false) := by show _ = _; simp [likeF, HCL.out, hc]
        go_enter Try.func100, Try.ntmps100
        go_upto_region 1 with fail
        rw [← HW.out]
        go_wp2_with fail
        go_ret
        exact ⟨by rw [hv.out]; rfl, hK⟩
    · have z1 := num_nb h1
      by_cases h2 : n = 2
      · subst h2
        by_cases hk : k = tx
        · subst hk
          go_enter Try.func100, Try.ntmps100
          go_upto_region 1 with fail
          rw [← HW.out]
          go_wp2_with fail
          go_ret
          exact ⟨by simp [likeF], hK⟩
        · have hz := txt_ne hk
          have hv : Hid (likeF 2 tx ⟨k, m, t, c⟩ = false) := by show _ = _; simp [likeF, hk]
          clear hk
          go_enter Try.func100, Try.ntmps100
          go_upto_region 1 with fail
          rw [← HW.out]
          go_wp2_with fail
          go_ret
          exact ⟨by rw [hv.out]; rfl, hK⟩
      · have z2 := num_nb h2
        have hv : Hid (likeF n tx ⟨k, m, t, c⟩ = false) := by show _ = _; simp [likeF, h0, h1, h2]
        clear h0 h1 h2
        go_enter Try.func100, Try.ntmps100
        go_upto_region 1 with fail
        rw [← HW.out]
        go_wp2_with fail
        go_ret
        exact ⟨by rw [hv.out]; rfl, hK⟩
/-- What bound tells. -/
def BoundR (A : Nat → Prop) (r : Option Nd) (w : World) (e : Ending) (w' : World) : Prop :=
  (∃ y yp yl yc, r = some y ∧ e = .returned (.tuple #[tv y.k y.n y.t yp yl yc, .bool true]) ∧ Tv w' A y.k y.t y.c yp yl yc ∧ Keeps (fun _ => False) w w') ∨ (r = none ∧ e = .returned (.tuple #[tv e0 0 e0 none 0 0, .bool false]) ∧ Keeps (fun _ => False) w w')
theorem bget_cons {nm a : ByteArray} {y : Nd} {r : List Bind} : bget ((a, y) :: r) nm = if a = nm then some y else bget r nm := by
  unfold bget
  rw [List.find?_cons]
  by_cases h : a = nm
  · simp [h]
  · simp [h]
set_option maxRecDepth 100000 in
set_option maxHeartbeats 1600000 in
theorem bound_any (bs : List Bind) (nm : ByteArray) (lp : Option Addr) (ll lc : Nat) (A : Nat → Prop) (w : World) (h : BindsAt w A bs lp ll) (hA : ∀ b, A b → b < w.heap.size) (hlc : ll ≤ lc) (hlc2 : lc ≤ 9223372036854775807) :
    Calls Try.prog 108 #[.slice lp ll lc, .string nm] w (BoundR A (bget bs nm) w) := by
  obtain ⟨W1, hW1⟩ : ∃ W1, W1 = w.alloc (.cells (four e0 0 e0 none 0 0) T) := ⟨_, rfl⟩
  have hK : Keeps (fun _ => False) w W1 := by rw [hW1]; exact (Keeps.refl _ w).alloc _
  have hb1 : W1.heap[w.heap.size]? = some (.cells (four e0 0 e0 none 0 0) T (0, 0)) := by rw [hW1]; exact heap_alloc_new _ _
  have hL := h.next hK
  have hll : bs.length = ll := h.len
  have HW := Lib.hid hW1
  have HB := Lib.hid hb1
  have HL := Lib.hid hL
  have HLL := Lib.hid hll
  have HA := Lib.hid hA
  clear hW1 hb1 hL h hll hA
  go_enter Try.func108, Try.ntmps108
  go_upto_region 1 with fail
  rw [← HW.out]
  go_wp2_with fail
  go_loopg [6] ll (fun m i W => ∃ j : Nat, j + m = ll ∧ i = .int .i64 j ∧ bget bs nm = bget (bs.drop j) nm ∧ W = W1)
  case atStart => exact ⟨0, by omega, rfl, rfl, rfl⟩
  case round =>
    obtain ⟨j, hjm, rfl, hiff, rfl⟩ := hrel
    have HJ := Lib.hid hjm
    have HI := Lib.hid hiff
    clear hjm hiff
    have hj0 : (0 : Int) ≤ (j : Int) := Int.natCast_nonneg _
    obtain ⟨f0, f1, f2, f3, g0, g1, g2, g3⟩ := box4 HB.out
    by_cases hlt : j < ll
    · obtain ⟨⟨nm2, y2⟩, he⟩ : ∃ e, bs[j]? = some e := ⟨_, List.getElem?_eq_getElem (by have := HLL.out; omega)⟩
      obtain ⟨bb, bo, hbp, _, _⟩ := HL.out.addr (by omega)
      subst hbp
      obtain ⟨_, m0, _, hbl, qp, ql, qc, hN⟩ := HL.out.at_ he
      have hi1 : (j : Int) < (ll : Int) := by omega
      have hd : Hid (bget (bs.drop j) nm = if nm2 = nm then some y2 else bget (bs.drop (j + 1)) nm) := by
        show _ = _
        rw [List.drop_eq_getElem_cons (by have := HLL.out; omega), (List.getElem?_eq_some_iff.1 he).2, bget_cons]
      clear he
      by_cases hnn : nm2 = nm
      · subst hnn
        have q0 := hN.c0
        have q1 := hN.c1
        have q2 := hN.c2
        have q3 := hN.c3
        have hv : Hid (bget bs nm2 = some y2) := by show _ = _; rw [HI.out, hd.out, if_pos rfl]
        have HN := Lib.hid hN
        clear hN
        go_wp2_with fail
        have hbx : ((((wr.setCell ⟨w.heap.size, 0, none⟩ (.string y2.k)).setCell ⟨w.heap.size, 1, none⟩ (.int .i64 y2.n)).setCell ⟨w.heap.size, 2, none⟩ (.string y2.t)).setCell ⟨w.heap.size, 3, none⟩ (.slice qp ql qc)).heap[w.heap.size]? = some (.cells (four y2.k y2.n y2.t qp ql qc) T (0, 0)) := by
          rw [heap_set (heap_set (heap_set (heap_set HB.out _ _) _ _) _ _) _ _]; rfl
        obtain ⟨r0, r1, r2, r3, _⟩ := box4 hbx
        have h4 := Keeps.four wr w.heap.size (.string y2.k) (.int .i64 y2.n) (.string y2.t) (.slice qp ql qc)
        refine bodyPost_ret (v := .tuple #[tv y2.k y2.n y2.t qp ql qc, .bool true]) (by simp [results, Try.results108, go_sem, r0, r1, r2, r3]) rfl ?_
        refine .inl ⟨y2, qp, ql, qc, hv.out, rfl, ?_, hK.trans' h4 (fun b hb hl => by omega)⟩
        exact HN.out.tv.keeps h4 (fun b hb e => by have := HA.out b hb; omega)
      · have hz := txt_ne hnn
        have hv : Hid (bget bs nm = bget (bs.drop (j + 1)) nm) := by show _ = _; rw [HI.out, hd.out, if_neg hnn]
        clear hN hnn hd
        go_wp2_with fail
        go_roundg (gk - 1)
        case measure => have := HJ.out; omega
        case rel => exact ⟨j + 1, by have := HJ.out; omega, by go_num, hv.out, rfl⟩
    · have hv : Hid (bget bs nm = none) := by
        show _ = _
        rw [HI.out, List.drop_eq_nil_of_le (by have := HLL.out; omega)]
        rfl
      go_wp2_with fail
      have hbx : ((((wr.setCell ⟨w.heap.size, 0, none⟩ (.string e0)).setCell ⟨w.heap.size, 1, none⟩ (.int .i64 0)).setCell ⟨w.heap.size, 2, none⟩ (.string e0)).setCell ⟨w.heap.size, 3, none⟩ (.slice none 0 0)).heap[w.heap.size]? = some (.cells (four e0 0 e0 none 0 0) T (0, 0)) := by
        rw [heap_set (heap_set (heap_set (heap_set HB.out _ _) _ _) _ _) _ _]; rfl
      obtain ⟨r0, r1, r2, r3, _⟩ := box4 hbx
      have h4 := Keeps.four wr w.heap.size (.string e0) (.int .i64 0) (.string e0) (.slice none 0 0)
      refine bodyPost_ret (v := .tuple #[tv e0 0 e0 none 0 0, .bool false]) (by simp [results, Try.results108, go_sem, r0, r1, r2, r3]) rfl ?_
      exact .inr ⟨hv.out, rfl, hK.trans' h4 (fun b hb hl => by omega)⟩
end Go.Proofs.Ytccoihmibkpedaa
