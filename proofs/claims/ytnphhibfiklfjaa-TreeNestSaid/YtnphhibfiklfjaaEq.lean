/-
  espalierref4.Eq: its walk.
-/
import Derived.Test.YtnphhibfiklfjaaCopy
import Derived.StillTailTactics
set_option linter.unusedVariables false
set_option linter.unusedSimpArgs false
namespace Go.Proofs.Ytnphhibfiklfjaa
open Go.RowKit

set_option maxRecDepth 100000 in
set_option maxHeartbeats 1600000 in
theorem Eq_any : ∀ (N : Nat) (k k' : ByteArray) (n n' : Int) (t t' : ByteArray) (c c' : Fo) (A A' : Nat → Prop) (cp cp' : Option Addr) (cl cc cl' cc' : Nat) (w : World), c.nodes < N → Tv w A k t c cp cl cc → Tv w A' k' t' c' cp' cl' cc' →
   Calls Try.prog 17 #[tv k n t cp cl cc, tv k' n' t' cp' cl' cc'] w fun e w' => e = .returned (.bool (eqB (one k n t c) (one k' n' t' c'))) ∧ Keeps (fun _ => False) w w' := by
  intro N
  induction N with
  | zero => intros; omega
  | succ N ih =>
    intro k k' n n' t t' c c' A A' cp cp' cl cc cl' cc' w hN h h'
    obtain ⟨w1, hw1⟩ : ∃ w1, w1 = w.alloc (.cells (four k n t cp cl cc) T) := ⟨_, rfl⟩
    obtain ⟨w2, hw2⟩ : ∃ w2, w2 = w1.alloc (.cells (four k' n' t' cp' cl' cc') T) := ⟨_, rfl⟩
    have hK1 : Keeps (fun _ => False) w w1 := by rw [hw1]; exact (Keeps.refl _ w).alloc _
    have hK2 : Keeps (fun _ => False) w1 w2 := by rw [hw2]; exact (Keeps.refl _ w1).alloc _
    have hs1 : w1.heap.size = w.heap.size + 1 := by rw [hw1]; simp
    have hs2 : w2.heap.size = w.heap.size + 1 + 1 := by rw [hw2]; simp [hs1]
    have hn1 : NodeAt w1 A w.heap.size 0 k n t c cp cl cc := by rw [hw1]; exact h.boxed _
    have hn := hn1.keeps hK2 (fun _ _ h => h) (by omega) (fun h => h)
    have hn' : NodeAt w2 A' (w.heap.size + 1) 0 k' n' t' c' cp' cl' cc' := by rw [hw2, ← hs1]; exact (h'.keeps hK1 (fun _ _ h => h)).boxed _
    have hK := hK1.trans hK2
    have HW := Lib.hid hw2
    have HW1 := Lib.hid hw1
    clear hw1 hw2 hn1
    have c0 := hn.c0
    have c1 := hn.c1
    have c2 := hn.c2
    have c3 := hn.c3
    have d0 := hn'.c0
    have d1 := hn'.c1
    have d2 := hn'.c2
    have d3 := hn'.c3
    have hlc := hn.lc
    have hcm := hn.cm
    have hlc' := hn'.lc
    have hcm' := hn'.cm
    have hne : ∀ w', (one k n t c ≠ one k' n' t' c') → Keeps (fun _ => False) w2 w' → (Ending.returned (.bool false) = .returned (.bool (eqB (one k n t c) (one k' n' t' c'))) ∧ Keeps (fun _ => False) w w') := fun w' h h' => ⟨by rw [eqB_false.2 h], hK.trans h'⟩
    by_cases hk : k = k'
    · subst hk
      by_cases hnn : n = n'
      · subst hnn
        by_cases ht : t = t'
        · subst ht
          by_cases hl : cl = cl'
          · subst hl
            clear hne
            go_enter Try.func17, Try.ntmps17
            go_wp2_with fail
            rw [← HW1.out, ← HW.out]
            go_loopg [5] cl (fun m i W => ∃ j : Nat, j + m = cl ∧ i = .int .i64 j ∧ (c = c' ↔ c.drop j = c'.drop j) ∧ Keeps (fun _ => False) w2 W)
            case atStart => exact ⟨0, by omega, rfl, Iff.rfl, Keeps.refl _ _⟩
            case round =>
              obtain ⟨j, hjm, rfl, hiff, hkr⟩ := hrel
              have hsr := hkr.size
              have hnr := hn.keeps hkr (fun _ _ h => h) (by omega) (fun h => h)
              have hnr' := hn'.keeps hkr (fun _ _ h => h) (by omega) (fun h => h)
              have k3 := hnr.c3
              have e3 := hnr'.c3
              have HI := Lib.hid hiff
              have HJ := Lib.hid hjm
              by_cases hlt : j < cl
              · obtain ⟨kb, ko, rfl, _, hkb⟩ := hnr.kids.hasAddr (by omega)
                obtain ⟨kb', ko', rfl, _, hkb'⟩ := hnr'.kids.hasAddr (by omega)
                obtain ⟨k1, n1, t1, s1, r1, hdr⟩ := Fo.drop_lt j c (by rw [hn.kids.len]; exact hlt)
                obtain ⟨k2, n2, t2, s2, r2, hdr'⟩ := Fo.drop_lt j c' (by rw [hn'.kids.len]; exact hlt)
                obtain ⟨cp1, cl1, cc1, hn1⟩ := hnr.kids.at_ j hdr hlt
                obtain ⟨cp2, cl2, cc2, hn2⟩ := hnr'.kids.at_ j hdr' hlt
                have hcN : s1.nodes < N := by
                  have h1 := Fo.nodes_drop j c
                  rw [hdr] at h1
                  simp only [Fo.nodes] at h1
                  omega
                have HD := Lib.hid hdr
                have HD' := Lib.hid hdr'
                clear hdr hdr' hjm hiff c0 c1 c2 c3 d0 d1 d2 d3
                have hih := ih k1 k2 n1 n2 t1 t2 s1 s2 A A' cp1 cp2 cl1 cc1 cl2 cc2 wr.drew hcN (hn1.tv.keeps (S := fun _ => False) (Keeps.refl _ wr).drew (fun _ _ h => h)) (hn2.tv.keeps (S := fun _ => False) (Keeps.refl _ wr).drew (fun _ _ h => h))
                have a0 := hn1.c0
                have a1 := hn1.c1
                have a2 := hn1.c2
                have a3 := hn1.c3
                have b0 := hn2.c0
                have b1 := hn2.c1
                have b2 := hn2.c2
                have b3 := hn2.c3
                have HK := Lib.hid hkr
                clear hkr ih hn1 hn2 hnr hnr'
                go_wp2_with fail
                go_still_tail 10, (by kernel_rfl)
                change wpList _ _ _ _ _ wr.drew
                go_wp2_with fail
                refine hih.mono ?_
                clear hih
                rintro e W ⟨rfl, hk⟩
                have hkW := HK.out.trans ((Keeps.refl _ wr).drew.trans hk)
                cases hbb : eqB (one k1 n1 t1 s1) (one k2 n2 t2 s2) with
                | true =>
                  have HB := Lib.hid (eqB_true.1 hbb)
                  clear hbb
                  go_wp2_with fail
                  go_roundg (gk - 1)
                  case measure => have := HJ.out; omega
                  case rel => exact ⟨j + 1, by have := HJ.out; omega, by go_num, Fo.drop_eq_step HD.out HD'.out HI.out HB.out, hkW⟩
                | false =>
                  have HB := Lib.hid (eqB_false.1 hbb)
                  clear hbb
                  go_wp2_with fail
                  go_ret
                  refine ⟨?_, hK.trans hkW⟩
                  have hne2 : one k n t c ≠ one k n t c' := by
                    intro h
                    rw [one_inj] at h
                    have h2 := h.2.2.2
                    rw [HI.out, HD.out, HD'.out] at h2
                    injection h2 with e1 e2 e3 e4
                    exact HB.out (one_inj.2 ⟨e1, e2, e3, e4⟩)
                  rw [eqB_false.2 hne2]
                  rfl
              · have hjl : cl ≤ j := by omega
                have HX : Hid (c = c') := by
                  refine HI.out.2 ?_
                  rw [Fo.drop_len_le (by rw [hn.kids.len]; exact hjl), Fo.drop_len_le (by rw [hn'.kids.len]; exact hjl)]
                clear hiff c0 c1 c2 c3 d0 d1 d2 d3
                go_wp2_with fail
                go_ret
                refine ⟨?_, hK.trans hkr⟩
                rw [HX.out, eqB_self]
                rfl
          · have hc : one k n t c ≠ one k n t c' := fun h => hl (by
              rw [one_inj] at h
              rw [← hn.kids.len, ← hn'.kids.len, h.2.2.2])
            go_enter Try.func17, Try.ntmps17
            go_wp2_with fail
            rw [← HW1.out, ← HW.out]
            go_ret
            exact hne _ hc (Keeps.refl _ _)
        · have hc : one k n t c ≠ one k n t' c' := fun h => ht (one_inj.1 h).2.2.1
          have h1 := txt_ne ht
          go_enter Try.func17, Try.ntmps17
          go_wp2_with fail
          rw [← HW1.out, ← HW.out]
          go_ret
          exact hne _ hc (Keeps.refl _ _)
      · have hc : one k n t c ≠ one k n' t' c' := fun h => hnn (one_inj.1 h).2.1
        have h1 := num_ne hnn
        go_enter Try.func17, Try.ntmps17
        go_wp2_with fail
        rw [← HW1.out, ← HW.out]
        go_ret
        exact hne _ hc (Keeps.refl _ _)
    · have hc : one k n t c ≠ one k' n' t' c' := fun h => hk (one_inj.1 h).1
      have h1 := txt_ne hk
      go_enter Try.func17, Try.ntmps17
      go_wp2_with fail
      rw [← HW1.out, ← HW.out]
      go_ret
      exact hne _ hc (Keeps.refl _ _)
end Go.Proofs.Ytnphhibfiklfjaa
