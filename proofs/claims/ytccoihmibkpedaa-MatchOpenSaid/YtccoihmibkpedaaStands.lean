/-
  espalierlaw24.stands: its walk.
-/
import Derived.Test.YtccoihmibkpedaaPkF

import Derived.StillTailTactics

set_option linter.unusedVariables false

set_option linter.unusedSimpArgs false

namespace Go.Proofs.Ytccoihmibkpedaa

open Go.RowKit

noncomputable def standsB (l : List Bind) (nm : ByteArray) (y : Nd) : Bool := @decide ((nm, y) ∈ l) (Classical.propDecidable _)
abbrev bndc (nm : ByteArray) (y : Nd) (yp : Option Addr) (yl yc : Nat) : Array Value := #[.string nm, .string y.k, .int .i64 y.n, .string y.t, .slice yp yl yc]
theorem take_mem {l : List Bind} {j : Nat} {e x : Bind} (h : l[j]? = some e) : x ∈ l.take (j + 1) ↔ x ∈ l.take j ∨ x = e := by
  rw [List.take_add_one, h]
  simp
set_option maxRecDepth 100000 in
set_option maxHeartbeats 3200000 in
theorem stands_any (l : List Bind) (nm : ByteArray) (y : Nd) (lp yp : Option Addr) (ll lc yl yc : Nat) (A A' : Nat → Prop) (w : World) (h : BindsAt w A l lp ll) (hlc : ll ≤ lc) (hlc2 : lc ≤ 9223372036854775807) (hy : Tv w A' y.k y.t y.c yp yl yc) :
    Calls Try.prog 36 #[.slice lp ll lc, .agg (bndc nm y yp yl yc)] w fun e w' => e = .returned (.bool (standsB l nm y)) ∧ Keeps (fun _ => False) w w' := by
  obtain ⟨W1, hW1⟩ : ∃ W1, W1 = w.alloc (.cells (bndc nm y yp yl yc) TB) := ⟨_, rfl⟩
  have hK : Keeps (fun _ => False) w W1 := by rw [hW1]; exact (Keeps.refl _ w).alloc _
  have hb1 : W1.heap[w.heap.size]? = some (.cells (bndc nm y yp yl yc) TB (0, 0)) := by rw [hW1]; exact heap_alloc_new _ _
  have hL := h.next hK
  have hY := hy.next hK
  have hll : l.length = ll := h.len
  have HW := Lib.hid hW1
  have HB := Lib.hid hb1
  have HL := Lib.hid hL
  have HLL := Lib.hid hll
  clear hW1 hb1 hL h hll
  go_enter Try.func36, Try.ntmps36
  go_upto_region 1 with fail
  rw [← HW.out]
  go_wp2_with fail
  go_loopg [5, 6] ll (fun m v i W => ∃ j : Nat, j + m = ll ∧ i = .int .i64 j ∧ ∃ b, v = .bool b ∧ (b = true ↔ (nm, y) ∈ l.take j) ∧ Keeps (fun _ => False) W1 W)
  case atStart => exact ⟨0, by omega, rfl, false, rfl, by simp, Keeps.refl _ _⟩
  case round =>
    obtain ⟨j, hjm, rfl, b, rfl, hiff, hk⟩ := hrel
    have HJ := Lib.hid hjm
    have HI := Lib.hid hiff
    have HK := Lib.hid hk
    clear hjm hiff hk
    have hj0 : (0 : Int) ≤ (j : Int) := Int.natCast_nonneg _
    by_cases hlt : j < ll
    · obtain ⟨⟨nm2, y2⟩, he⟩ : ∃ e, l[j]? = some e := ⟨_, List.getElem?_eq_getElem (by have := HLL.out; omega)⟩
      obtain ⟨bb, bo, hbp, _, _⟩ := HL.out.addr (by omega)
      subst hbp
      obtain ⟨_, m0, _, _, qp, ql, qc, hN⟩ := (HL.out.next HK.out).at_ he
      have q0 := hN.c0
      have q1 := hN.c1
      have q2 := hN.c2
      have q3 := hN.c3
      have hbx := HK.out.heap HB.out
      have b0 : wr.cell? ⟨w.heap.size, 0, none⟩ = some (.string nm) := by simp [World.cell?, hbx]
      have b1 : wr.cell? ⟨w.heap.size, 1, none⟩ = some (.string y.k) := by simp [World.cell?, hbx]
      have b2 : wr.cell? ⟨w.heap.size, 2, none⟩ = some (.int .i64 y.n) := by simp [World.cell?, hbx]
      have b3 : wr.cell? ⟨w.heap.size, 3, none⟩ = some (.string y.t) := by simp [World.cell?, hbx]
      have b4 : wr.cell? ⟨w.heap.size, 4, none⟩ = some (.slice yp yl yc) := by simp [World.cell?, hbx]
      have hdr : Keeps (fun _ => False) wr wr.drew := (Keeps.refl _ wr).drew
      have hz := Eq_any (y2.c.nodes + 1) y2.k y.k y2.n y.n y2.t y.t y2.c y.c _ _ _ _ _ _ _ _ wr.drew (by omega) (hN.tv.next hdr) ((hY.next HK.out).next hdr)
      obtain ⟨se, hse⟩ : ∃ v, eqB (one y2.k y2.n y2.t y2.c) (one y.k y.n y.t y.c) = v := ⟨_, rfl⟩
      rw [hse] at hz
      have HSE : Hid (se = true ↔ y2 = y) := by
        show se = true ↔ y2 = y
        rw [← hse, eqB_true, one_inj]
        constructor
        · rintro ⟨h1, h2, h3, h4⟩; exact Nd.ext' h1 h2 h3 h4
        · rintro rfl; exact ⟨rfl, rfl, rfl, rfl⟩
      have hi1 : (j : Int) < (ll : Int) := by omega
      have HE := Lib.hid he
      have hc : ∀ W', Keeps (fun _ => False) wr.drew W' → W'.cell? ⟨w.heap.size, 0, none⟩ = some (.string nm) ∧ W'.cell? ⟨bb, bo + j * 5, none⟩ = some (.string nm2) := fun W' hk => ⟨((hdr.trans hk).cell (p := ⟨w.heap.size, 0, none⟩) (World.block_lt_of_cell? wr _ b0) (fun h => h)).trans b0, ((hdr.trans hk).cell (p := ⟨bb, bo + j * 5, none⟩) (World.block_lt_of_cell? wr _ m0) (fun h => h)).trans m0⟩
      have HC := Lib.hid hc
      clear hc hse he hN hbx hdr
      go_wp2_with fail
      go_still_tail 7, (by kernel_rfl)
      change wpList _ _ _ _ _ wr.drew
      go_wp2_with fail
      refine hz.mono ?_
      clear hz q0 q1 q2 q3 b0 b1 b2 b3 b4 m0
      rintro e W8 ⟨rfl, hk8⟩
      obtain ⟨b0, m0⟩ := HC.out _ hk8
      have HK8 := Lib.hid (HK.out.trans (((Keeps.refl _ wr).drew).trans hk8))
      clear hk8
      have fin : ∀ W' b', Keeps (fun _ => False) W8 W' → (b' = true ↔ (nm, y) ∈ l.take (j + 1)) → ∃ j3 : Nat, j3 + (gk - 1) = ll ∧ Value.int .i64 ((j : Int) + 1) = .int .i64 j3 ∧ ∃ b, Value.bool b' = .bool b ∧ (b = true ↔ (nm, y) ∈ l.take j3) ∧ Keeps (fun _ => False) W1 W' := fun W' b' hk ho => ⟨j + 1, by have := HJ.out; omega, by go_num, b', rfl, ho, HK8.out.trans hk⟩
      have FIN := Lib.hid fin
      clear fin
      cases b with
      | true =>
        clear m0 b0
        go_wp2_with fail
        go_quiet (fail)
        go_wp2_with fail
        go_roundg (gk - 1)
        case measure => have := HJ.out; omega
        case rel => exact FIN.out _ _ ((Keeps.refl _ W8).drewN _) (by rw [take_mem HE.out]; exact ⟨fun _ => .inl (HI.out.1 (by trivial)), fun _ => by trivial⟩)
      | false =>
        by_cases hnn : nm2 = nm
        · subst hnn
          go_wp2_with fail
          go_quiet (fail)
          go_wp2_with fail
          go_roundg (gk - 1)
          case measure => have := HJ.out; omega
          case rel =>
            refine FIN.out _ _ ((Keeps.refl _ W8).drewN _) ?_
            rw [take_mem HE.out, HSE.out]
            constructor
            · intro h; exact .inr (by rw [h])
            · rintro (h | h)
              · have := HI.out.2 h; cases this
              · simp only [Prod.mk.injEq, true_and] at h; exact h.symm
        · have hnm := txt_ne hnn
          have HNN := Lib.hid hnn
          go_wp2_with fail
          go_quiet (fail)
          go_wp2_with fail
          go_roundg (gk - 1)
          case measure => have := HJ.out; omega
          case rel =>
            refine FIN.out _ _ ((Keeps.refl _ W8).drewN _) ?_
            rw [take_mem HE.out]
            constructor
            · intro h; cases h
            · rintro (h | h)
              · exact HI.out.2 h
              · simp only [Prod.mk.injEq] at h; exact absurd h.1.symm HNN.out
    · have hb : Hid (b = standsB l nm y) := by
        show b = standsB l nm y
        have h1 : l.take j = l := List.take_of_length_le (by have := HLL.out; omega)
        have h2 := HI.out
        rw [h1] at h2
        unfold standsB
        by_cases hm : (nm, y) ∈ l
        · rw [h2.2 hm]; simp [hm]
        · cases b with
          | false => simp [hm]
          | true => exact absurd (h2.1 rfl) hm
      go_wp2_with fail
      go_ret
      exact ⟨by rw [← hb.out]; rfl, hK.trans HK.out⟩
end Go.Proofs.Ytccoihmibkpedaa
