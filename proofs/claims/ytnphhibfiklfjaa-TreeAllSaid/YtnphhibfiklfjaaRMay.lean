/-
  espalierref4.named, May: their walks.
-/
import Derived.Test.YtnphhibfiklfjaaOver
import Derived.Test.YtnphhibfiklfjaaMay
import Derived.Test.YtnphhibfiklfjaaRSign
set_option linter.unusedVariables false
set_option linter.unusedSimpArgs false
namespace Go.Proofs.Ytnphhibfiklfjaa
open Go.RowKit

theorem namedL_app (l l' : List ByteArray) : namedL (l ++ l') = (namedL l && namedL l') := by simp [namedL, List.all_append]
theorem named_step {c : Fo} {j : Nat} {k1 n1 t1 s1 r1} {g v : Bool} (hd : c.drop j = .cons k1 n1 t1 s1 r1) (h : v = (g && namedL (c.drop j).kinds)) : v = ((g && namedL (k1 :: s1.kinds)) && namedL (c.drop (j + 1)).kinds) := by
  have h1 : c.drop (j + 1) = r1 := Fo.drop_step hd
  rw [h, hd, h1]
  show (g && namedL (k1 :: s1.kinds ++ r1.kinds)) = _
  rw [namedL_app, Bool.and_assoc]
theorem Tv.kidNodes {c : Fo} {j : Nat} {k1 n1 t1 s1 r1} (hd : c.drop j = .cons k1 n1 t1 s1 r1) : s1.nodes < c.nodes := by
  have h1 := Fo.nodes_drop j c
  rw [hd] at h1
  simp only [Fo.nodes] at h1
  omega
set_option maxRecDepth 100000 in
set_option maxHeartbeats 1600000 in
theorem named_any : ∀ (N : Nat) (k : ByteArray) (n : Int) (t : ByteArray) (c : Fo) (cp : Option Addr) (cl cc : Nat) (A : Nat → Prop) (w : World), c.nodes < N → Tv w A k t c cp cl cc →
    Calls Try.prog 64 #[tv k n t cp cl cc] w fun e w' => e = .returned (.bool (namedL (k :: c.kinds))) ∧ Keeps (fun _ => False) w w' := by
  intro N
  induction N with
  | zero => intros; omega
  | succ N ih =>
    intro k n t c cp cl cc A w hN h
    obtain ⟨w1, hw1⟩ : ∃ w1, w1 = w.alloc (.cells (four k n t cp cl cc) T) := ⟨_, rfl⟩
    have hK1 : Keeps (fun _ => False) w w1 := by rw [hw1]; exact (Keeps.refl _ w).alloc _
    have hs1 : w1.heap.size = w.heap.size + 1 := by rw [hw1]; simp
    have hbx : w1.heap[w.heap.size]? = some (.cells (four k n t cp cl cc) T (0, 0)) := by rw [hw1]; exact heap_alloc_new _ _
    have ht1 := h.next hK1
    have hlc := h.lc
    have hcm := h.cm
    have hki := rKind_any k w1 h.size.2
    have hv : Hid (namedL (k :: c.kinds) = (kindB k.data.toList && namedL (c.drop 0).kinds)) := rfl
    unfold KindR at hki
    obtain ⟨g0, hg0⟩ : ∃ g, kindB k.data.toList = g := ⟨_, rfl⟩
    rw [hg0] at hki hv
    obtain ⟨v, hvv⟩ : ∃ v, namedL (k :: c.kinds) = v := ⟨_, rfl⟩
    rw [hvv] at hv ⊢
    obtain ⟨c0, c1, c2, c3, _⟩ := box4 hbx
    have HW := Lib.hid hw1
    have HI := Lib.hid ih
    clear hw1 ih hg0 hvv
    go_enter Try.func64, Try.ntmps64
    go_upto_region 1 with fail
    rw [← HW.out]
    go_wp2_with fail
    refine hki.mono ?_
    clear hki c0 c1 c2 c3
    rintro e W ⟨sa, sb, rfl, hk⟩
    go_wp2_with fail
    go_loopg [5, 6] cl (fun m ok i W' => ∃ (j : Nat) (g : Bool), j + m = cl ∧ ok = .bool g ∧ i = .int .i64 j ∧ v = (g && namedL (c.drop j).kinds) ∧ Keeps (fun _ => False) w1 W')
    case atStart => exact ⟨0, g0, by omega, rfl, rfl, hv.out, hk⟩
    case round =>
      obtain ⟨j, g, hjm, rfl, rfl, hI, hkr⟩ := hrel
      have hbr := hkr.heap hbx
      obtain ⟨b0, b1, b2, b3, _⟩ := box4 hbr
      have HJ := Lib.hid hjm
      have HIr := Lib.hid hI
      have HKR := Lib.hid hkr
      have HF := Lib.hid (hK1.trans hkr)
      clear hjm hI hv hkr
      cases g with
      | false =>
        by_cases hlt : j < cl
        all_goals
          go_wp2_with fail
          go_ret
          exact ⟨by rw [HIr.out]; rfl, HF.out⟩
      | true =>
        by_cases hlt : j < cl
        · have htr := ht1.next HKR.out
          obtain ⟨kb, ko, rfl, hAk, hkb⟩ := htr.kids.hasAddr (by omega)
          obtain ⟨k1, n1, t1, s1, r1, hdr⟩ := Fo.drop_lt j c (by rw [ht1.len]; exact hlt)
          obtain ⟨cp1, cl1, cc1, hn1⟩ := htr.kids.at_ j hdr hlt
          have hz := HI.out k1 n1 t1 s1 cp1 cl1 cc1 A wr (by have := Tv.kidNodes hdr; omega) hn1.tv
          have HNX := Lib.hid (named_step hdr HIr.out)
          have a0 := hn1.c0
          have a1 := hn1.c1
          have a2 := hn1.c2
          have a3 := hn1.c3
          have hi0' : (0 : Int) ≤ (j : Int) := Int.natCast_nonneg _
          have hi1 : (j : Int) < (cl : Int) := by omega
          clear hdr hn1 htr
          go_wp2_with fail
          refine hz.mono ?_
          clear hz a0 a1 a2 a3 b0 b1 b2 b3
          rintro e W2 ⟨rfl, hkW⟩
          have HKW := Lib.hid hkW
          clear hkW
          go_wp2_with fail
          go_roundg (gk - 1)
          case measure => have := HJ.out; omega
          case rel => exact ⟨j + 1, _, by have := HJ.out; omega, rfl, by go_num, HNX.out, HKR.out.trans HKW.out⟩
        · have hend : c.drop j = .nil := Fo.drop_len_le (by rw [ht1.len]; omega)
          have HE := Lib.hid hend
          clear hend
          go_wp2_with fail
          go_ret
          exact ⟨by rw [HIr.out, HE.out]; rfl, HF.out⟩
set_option maxHeartbeats 400000 in
theorem rMay_any (x : Nd) (cp : Option Addr) (cl cc : Nat) (A : Nat → Prop) (w : World) (h : Tv w A x.k x.t x.c cp cl cc) :
    Calls Try.prog 47 #[tv x.k x.n x.t cp cl cc] w fun e w' => e = .returned (.int .i64 (mayF x)) ∧ Keeps (fun _ => False) w w' := by
  obtain ⟨w1, hw1⟩ : ∃ w1, w1 = w.alloc (.cells (four x.k x.n x.t cp cl cc) T) := ⟨_, rfl⟩
  have hK1 : Keeps (fun _ => False) w w1 := by rw [hw1]; exact (Keeps.refl _ w).alloc _
  have hb1 : w1.heap[w.heap.size]? = some (.cells (four x.k x.n x.t cp cl cc) T (0, 0)) := by rw [hw1]; exact heap_alloc_new _ _
  have ht1 := h.next hK1
  have hS := rSmall_any x cp cl cc _ w1 ht1
  have hN : Hid (∀ W, Keeps (fun _ => False) w1 W → Calls Try.prog 64 #[tv x.k x.n x.t cp cl cc] W fun e w' => e = .returned (.bool x.named) ∧ Keeps (fun _ => False) W w') := Lib.hid fun W hk => named_any (x.c.nodes + 1) x.k x.n x.t x.c cp cl cc _ W (by omega) (ht1.next hk)
  have hF : Hid (mayF x = if decide x.small = true then (if x.named then 0 else 10) else 2) := by show _ = _; simp [mayF]
  obtain ⟨a, ha⟩ : ∃ a, decide x.small = a := ⟨_, rfl⟩
  obtain ⟨b, hb⟩ : ∃ a, x.named = a := ⟨_, rfl⟩
  rw [ha] at hS hF
  rw [hb] at hN hF
  obtain ⟨b0, b1, b2, b3, _⟩ := box4 hb1
  have HW := Lib.hid hw1
  clear hw1 ha hb ht1
  cases a with
  | false =>
    go_enter Try.func47, Try.ntmps47
    go_upto_region 1 with fail
    rw [← HW.out]
    go_wp2_with fail
    refine hS.mono ?_
    clear hS b0 b1 b2 b3
    rintro e W ⟨rfl, hk⟩
    go_wp2_with fail
    go_ret
    exact ⟨by rw [hF.out]; rfl, hK1.trans hk⟩
  | true =>
    go_enter Try.func47, Try.ntmps47
    go_upto_region 1 with fail
    rw [← HW.out]
    go_wp2_with fail
    refine hS.mono ?_
    clear hS b0 b1 b2 b3
    rintro e W ⟨rfl, hk⟩
    obtain ⟨b0, b1, b2, b3, _⟩ := box4 (hk.heap hb1)
    have hN := hN.out _ hk
    go_wp2_with fail
    refine hN.mono ?_
    clear hN b0 b1 b2 b3
    rintro e W2 ⟨rfl, hk2⟩
    cases b
    all_goals
      go_wp2_with fail
      go_ret
      exact ⟨by rw [hF.out]; rfl, (hK1.trans hk).trans hk2⟩
end Go.Proofs.Ytnphhibfiklfjaa
