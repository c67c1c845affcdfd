/-
  espalierlaw24.uses: its walk.
-/
import Derived.Test.YtccoihmibkpedaaPkD

import Derived.Deep.Cut

set_option linter.unusedVariables false

set_option linter.unusedSimpArgs false

namespace Go.Proofs.Ytccoihmibkpedaa

open Go.RowKit

/-- Has one of the trees a node of kind q? -/
def usesFo (q : ByteArray) : Fo → Bool
  | .nil => false
  | .cons k _ _ c r => decide (k = q) || usesFo q c || usesFo q r
def usesF (q : ByteArray) (k : ByteArray) (c : Fo) : Bool := decide (k = q) || usesFo q c
theorem usesFo_step {q : ByteArray} {c : Fo} {j : Nat} {k n t cs r} {b : Bool} (hd : c.drop j = .cons k n t cs r) (h : b = usesFo q (c.drop j)) : b = (usesF q k cs || usesFo q (c.drop (j + 1))) := by
  rw [h, hd, Fo.drop_step hd]; rfl
set_option maxRecDepth 100000 in
set_option maxHeartbeats 1600000 in
theorem uses_any (q : ByteArray) : ∀ (N : Nat) (k : ByteArray) (n : Int) (t : ByteArray) (c : Fo) (cp : Option Addr) (cl cc : Nat) (A : Nat → Prop) (w : World), c.nodes < N → Tv w A k t c cp cl cc →
    Calls Try.prog 33 #[tv k n t cp cl cc, .string q] w fun e w' => e = .returned (.bool (usesF q k c)) ∧ Keeps (fun _ => False) w w' := by
  intro N
  induction N with
  | zero => intros; omega
  | succ N ih =>
    intro k n t c cp cl cc A w hN h
    obtain ⟨w1, hw1⟩ : ∃ w1, w1 = w.alloc (.cells (four k n t cp cl cc) T) := ⟨_, rfl⟩
    have hK1 : Keeps (fun _ => False) w w1 := by rw [hw1]; exact (Keeps.refl _ w).alloc _
    have hbx : w1.heap[w.heap.size]? = some (.cells (four k n t cp cl cc) T (0, 0)) := by rw [hw1]; exact heap_alloc_new _ _
    have ht1 := h.next hK1
    have hlc := h.lc
    have hcm := h.cm
    obtain ⟨c0, c1, c2, c3, _⟩ := box4 hbx
    have HW := Lib.hid hw1
    have HI := Lib.hid ih
    clear hw1 ih
    by_cases hkq : k = q
    · subst hkq
      go_enter Try.func33, Try.ntmps33
      go_upto_region 1 with fail
      rw [← HW.out]
      go_wp2_with fail
      go_ret
      exact ⟨by simp [usesF], hK1⟩
    · have hne := txt_ne hkq
      have hF : Hid (usesF q k c = usesFo q c) := by show usesF q k c = _; unfold usesF; rw [decide_eq_false hkq]; rfl
      go_enter Try.func33, Try.ntmps33
      go_upto_region 1 with fail
      rw [← HW.out]
      go_wp2_with fail
      go_loopg [5] cl (fun m i W' => ∃ (j : Nat), j + m = cl ∧ i = .int .i64 j ∧ usesFo q c = usesFo q (c.drop j) ∧ Keeps (fun _ => False) w1 W')
      case atStart => exact ⟨0, by omega, rfl, rfl, Keeps.refl _ _⟩
      case round =>
        obtain ⟨j, hjm, rfl, hI, hkr⟩ := hrel
        have hbr := hkr.heap hbx
        clear c0 c1 c2 c3
        obtain ⟨b0, b1, b2, b3, _⟩ := box4 hbr
        have HJ := Lib.hid hjm
        have HIr := Lib.hid hI
        have HKR := Lib.hid hkr
        have HBX := Lib.hid hbx
        have hj0 : (0 : Int) ≤ (j : Int) := Int.natCast_nonneg _
        clear hjm hI hkr hbr hbx
        by_cases hlt : j < cl
        · have htr := ht1.next HKR.out
          obtain ⟨kb, ko, rfl, hAk, hkb⟩ := htr.kids.hasAddr (by omega)
          obtain ⟨k1, n1, t1, s1, r1, hdr⟩ := Fo.drop_lt j c (by rw [ht1.len]; exact hlt)
          obtain ⟨cp1, cl1, cc1, hn1⟩ := htr.kids.at_ j hdr hlt
          have hz := HI.out k1 n1 t1 s1 cp1 cl1 cc1 A wr (by have := Tv.kidNodes hdr; omega) hn1.tv
          have HNX := Lib.hid (usesFo_step hdr HIr.out)
          obtain ⟨u, hu⟩ : ∃ x, usesF q k1 s1 = x := ⟨_, rfl⟩
          rw [hu] at hz HNX
          have a0 := hn1.c0
          have a1 := hn1.c1
          have a2 := hn1.c2
          have a3 := hn1.c3
          have hi1 : (j : Int) < (cl : Int) := by omega
          clear hu hdr hn1 htr h ht1 HIr
          cases u with
          | true =>
            go_wp2_with fail
            refine hz.mono ?_
            clear hz
            rintro e W2 ⟨rfl, hk2⟩
            go_wp2_with fail
            go_ret
            exact ⟨by rw [hF.out, HNX.out]; rfl, (hK1.trans HKR.out).trans hk2⟩
          | false =>
            go_wp2_with fail
            refine hz.mono ?_
            clear hz
            rintro e W2 ⟨rfl, hk2⟩
            go_wp2_with fail
            go_roundg (gk - 1)
            case measure => have := HJ.out; omega
            case rel => exact ⟨j + 1, by have := HJ.out; omega, by go_num, by rw [HNX.out]; rfl, HKR.out.trans hk2⟩
        · have hd : Hid (usesFo q c = false) := by show usesFo q c = false; rw [HIr.out, Fo.drop_len_le (by rw [ht1.len]; omega)]; rfl
          clear HIr h ht1
          go_wp2_with fail
          go_ret
          exact ⟨by rw [hF.out, hd.out]; rfl, hK1.trans HKR.out⟩
end Go.Proofs.Ytccoihmibkpedaa
