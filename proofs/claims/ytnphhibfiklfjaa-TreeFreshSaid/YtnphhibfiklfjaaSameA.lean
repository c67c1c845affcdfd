/-
  tree.same: its walk.
-/
import Derived.Test.YtnphhibfiklfjaaWalkC

set_option linter.unusedVariables false

set_option linter.unusedSimpArgs false

namespace Go.Proofs.Ytnphhibfiklfjaa

open Go.RowKit

set_option maxRecDepth 100000 in
set_option maxHeartbeats 1600000 in
theorem same_any : ∀ (N : Nat) (k k' : ByteArray) (n n' : Int) (t t' : ByteArray) (c c' : Fo) (A A' : Nat → Prop) (b o b' o' : Nat) (cp cp' : Option Addr) (cl cc cl' cc' : Nat) (w : World), c.nodes < N → NodeAt w A b o k n t c cp cl cc → NodeAt w A' b' o' k' n' t' c' cp' cl' cc' →
   Calls Try.prog 42 #[.pointer (some ⟨b, o, none⟩), .pointer (some ⟨b', o', none⟩)] w fun e w' => e = .returned (.bool (eqB (one k n t c) (one k' n' t' c'))) ∧ ∃ m, w' = w.drewN m := by
  intro N
  induction N with
  | zero => intros; omega
  | succ N ih =>
    intro k k' n n' t t' c c' A A' b o b' o' cp cp' cl cc cl' cc' w hN hn hn'
    have c0 := hn.c0
    have c1 := hn.c1
    have c2 := hn.c2
    have c3 := hn.c3
    have d0 := hn'.c0
    have d1 := hn'.c1
    have d2 := hn'.c2
    have d3 := hn'.c3
    have hlc := hn.lc
    have hcm := hn.cm
    have hlc' := hn'.lc
    have hcm' := hn'.cm
    have hne : ∀ w', (one k n t c ≠ one k' n' t' c') → (∃ m, w' = w.drewN m) → (Ending.returned (.bool false) = .returned (.bool (eqB (one k n t c) (one k' n' t' c'))) ∧ ∃ m, w' = w.drewN m) := fun w' h h' => ⟨by rw [eqB_false.2 h], h'⟩
    by_cases hk : k = k'
    · subst hk
      by_cases hnn : n = n'
      · subst hnn
        by_cases ht : t = t'
        · subst ht
          by_cases hl : cl = cl'
          · subst hl
            clear hne
            go_enter Try.func42, Try.ntmps42
            go_wp2_with fail
            go_quiet (fail)
            go_wp2_with fail
            go_loopg [55] cl (fun m i W => ∃ j : Nat, j + m = cl ∧ i = .int .i64 j ∧ (c = c' ↔ c.drop j = c'.drop j) ∧ ∃ m, W = w.drewN m)
            case atStart => exact ⟨0, by omega, rfl, Iff.rfl, _, rfl⟩
            case round =>
              obtain ⟨j, hjm, rfl, hiff, m0, hm0⟩ := hrel
              have k3 : wr.cell? ⟨b, o + 3, none⟩ = some (.slice cp cl cc) := by rw [hm0]; exact c3
              have e3 : wr.cell? ⟨b', o' + 3, none⟩ = some (.slice cp' cl cc') := by rw [hm0]; exact d3
              have HM := Lib.hid hm0
              have HI := Lib.hid hiff
              have HJ := Lib.hid hjm
              by_cases hlt : j < cl
              · obtain ⟨kb, ko, rfl, _, _⟩ := hn.kids.hasAddr (by omega)
                obtain ⟨kb', ko', rfl, _, _⟩ := hn'.kids.hasAddr (by omega)
                obtain ⟨k1, n1, t1, s1, r1, hdr⟩ := Fo.drop_lt j c (by rw [hn.kids.len]; exact hlt)
                obtain ⟨k2, n2, t2, s2, r2, hdr'⟩ := Fo.drop_lt j c' (by rw [hn'.kids.len]; exact hlt)
                obtain ⟨cp1, cl1, cc1, hn1⟩ := hn.kids.at_ j hdr hlt
                obtain ⟨cp2, cl2, cc2, hn2⟩ := hn'.kids.at_ j hdr' hlt
                have hcN : s1.nodes < N := by
                  have h1 := Fo.nodes_drop j c
                  rw [hdr] at h1
                  simp only [Fo.nodes] at h1
                  omega
                have HD := Lib.hid hdr
                have HD' := Lib.hid hdr'
                clear hdr hdr' hjm hiff c0 c1 c2 c3 d0 d1 d2 d3
                have hn1 : NodeAt wr A kb (ko + j * 4) k1 n1 t1 s1 cp1 cl1 cc1 := by rw [hm0]; exact ⟨hn1.size, hn1.lc, hn1.cm, hn1.c0, hn1.c1, hn1.c2, hn1.c3, hn1.kids.drewN m0⟩
                have hn2 : NodeAt wr A' kb' (ko' + j * 4) k2 n2 t2 s2 cp2 cl2 cc2 := by rw [hm0]; exact ⟨hn2.size, hn2.lc, hn2.cm, hn2.c0, hn2.c1, hn2.c2, hn2.c3, hn2.kids.drewN m0⟩
                clear hm0
                have hq : ∀ m, NodeAt (wr.drewN m) A kb (ko + j * 4) k1 n1 t1 s1 cp1 cl1 cc1 ∧ NodeAt (wr.drewN m) A' kb' (ko' + j * 4) k2 n2 t2 s2 cp2 cl2 cc2 := fun m => ⟨⟨hn1.size, hn1.lc, hn1.cm, hn1.c0, hn1.c1, hn1.c2, hn1.c3, hn1.kids.drewN m⟩, ⟨hn2.size, hn2.lc, hn2.cm, hn2.c0, hn2.c1, hn2.c2, hn2.c3, hn2.kids.drewN m⟩⟩
                have hih : ∀ m, Calls Try.prog 42 #[.pointer (some ⟨kb, ko + j * 4, none⟩), .pointer (some ⟨kb', ko' + j * 4, none⟩)] (wr.drewN m) fun e w' => e = .returned (.bool (eqB (one k1 n1 t1 s1) (one k2 n2 t2 s2))) ∧ ∃ m', w' = (wr.drewN m).drewN m' := fun m => ih k1 k2 n1 n2 t1 t2 s1 s2 A A' kb (ko + j * 4) kb' (ko' + j * 4) cp1 cp2 cl1 cc1 cl2 cc2 _ hcN (hq m).1 (hq m).2
                clear hq
                go_wp2_with fail
                go_quiet ((go_at_call 42; exact Calls.quiet_of (hih _)))
                cases hbb : eqB (one k1 n1 t1 s1) (one k2 n2 t2 s2) with
                | true =>
                  have HB := Lib.hid (eqB_true.1 hbb)
                  clear hbb hih
                  go_wp2_with fail
                  go_roundg (gk - 1)
                  case measure => have := HJ.out; omega
                  case rel => exact ⟨j + 1, by have := HJ.out; omega, by go_num, Fo.drop_eq_step HD.out HD'.out HI.out HB.out, m0 + nq, by rw [HM.out, World.drewN_drewN]⟩
                | false =>
                  have HB := Lib.hid (eqB_false.1 hbb)
                  clear hbb hih
                  go_wp2_with fail
                  go_ret
                  refine ⟨?_, m0 + nq, by rw [HM.out, World.drewN_drewN]⟩
                  have hne2 : one k n t c ≠ one k n t c' := by
                    intro h
                    rw [one_inj] at h
                    have h2 := h.2.2.2
                    rw [HI.out, HD.out, HD'.out] at h2
                    injection h2 with e1 e2 e3 e4
                    exact HB.out (one_inj.2 ⟨e1, e2, e3, e4⟩)
                  rw [eqB_false.2 hne2]
                  rfl
              · have hjl : cl ≤ j := by omega
                have HX : Hid (c = c') := by
                  refine HI.out.2 ?_
                  rw [Fo.drop_len_le (by rw [hn.kids.len]; exact hjl), Fo.drop_len_le (by rw [hn'.kids.len]; exact hjl)]
                clear hiff hm0 c0 c1 c2 c3 d0 d1 d2 d3
                go_wp2_with fail
                go_ret
                refine ⟨?_, m0, HM.out⟩
                rw [HX.out, eqB_self]
                rfl
          · have hc : one k n t c ≠ one k n t c' := fun h => hl (by
              rw [one_inj] at h
              rw [← hn.kids.len, ← hn'.kids.len, h.2.2.2])
            go_enter Try.func42, Try.ntmps42
            go_wp2_with fail
            go_quiet (fail)
            go_wp2_with fail
            go_ret
            exact hne _ hc ⟨_, rfl⟩
        · have hc : one k n t c ≠ one k n t' c' := fun h => ht (one_inj.1 h).2.2.1
          have h1 := txt_ne ht
          go_enter Try.func42, Try.ntmps42
          go_wp2_with fail
          go_quiet (fail)
          go_wp2_with fail
          go_ret
          exact hne _ hc ⟨_, rfl⟩
      · have hc : one k n t c ≠ one k n' t' c' := fun h => hnn (one_inj.1 h).2.1
        have h1 := num_ne hnn
        go_enter Try.func42, Try.ntmps42
        go_wp2_with fail
        go_quiet (fail)
        go_wp2_with fail
        go_ret
        exact hne _ hc ⟨_, rfl⟩
    · have hc : one k n t c ≠ one k' n' t' c' := fun h => hk (one_inj.1 h).1
      have h1 := txt_ne hk
      go_enter Try.func42, Try.ntmps42
      go_wp2_with fail
      go_quiet (fail)
      go_wp2_with fail
      go_ret
      exact hne _ hc ⟨_, rfl⟩
end Go.Proofs.Ytnphhibfiklfjaa
