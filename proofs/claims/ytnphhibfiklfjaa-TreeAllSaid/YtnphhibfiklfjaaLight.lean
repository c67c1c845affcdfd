/-
  espalierlaw4.light, Light: their walks.
-/
import Derived.Test.YtnphhibfiklfjaaRMay
set_option linter.unusedVariables false
set_option linter.unusedSimpArgs false
namespace Go.Proofs.Ytnphhibfiklfjaa
open Go.RowKit

/-- What is left of n over the trees f. -/
def lightF : Fo → Int → Int
  | .nil, n => n
  | .cons _ _ t c r, n => if 0 ≤ n then lightF r (lightF c (n - 1 - (t.size : Int).tdiv 64)) else n
theorem lightF_neg : ∀ (f : Fo) (n : Int), n < 0 → lightF f n = n
  | .nil, _, _ => rfl
  | .cons _ _ _ _ _, n, h => by rw [lightF, if_neg (by omega)]
theorem lightF_nodes : ∀ (f : Fo) (n : Int), 0 ≤ lightF f n → lightF f n + f.nodes ≤ n
  | .nil, n, _ => by show n + (0 : Int) ≤ n; omega
  | .cons k m t c r, n, h => by
    by_cases h0 : 0 ≤ n
    · rw [lightF, if_pos h0] at h ⊢
      have h1 := lightF_nodes r _ h
      have h2 := lightF_nodes c (n - 1 - (t.size : Int).tdiv 64) (by
        by_cases hc : 0 ≤ lightF c (n - 1 - (t.size : Int).tdiv 64)
        · exact hc
        · rw [lightF_neg r _ (by omega)] at h; exact h)
      have h3 : 0 ≤ (t.size : Int).tdiv 64 := Int.tdiv_nonneg (by omega) (by omega)
      simp only [Fo.nodes]
      omega
    · rw [lightF, if_neg h0] at h
      omega
theorem lightF_step {c : Fo} {j : Nat} {k1 n1 t1 s1 r1} {n res : Int} (hd : c.drop j = .cons k1 n1 t1 s1 r1) (h : res = lightF (c.drop j) n) (h0 : 0 ≤ n) : res = lightF (c.drop (j + 1)) (lightF s1 (n - 1 - (t1.size : Int).tdiv 64)) := by
  rw [h, hd, Fo.drop_step hd, lightF, if_pos h0]
/-- Is it light? -/
def lightN (x : Nd) : Int := lightF x.c (3000 - 1 - (x.t.size : Int).tdiv 64)
theorem lightN_nodes (x : Nd) (h : 0 ≤ lightN x) : x.c.nodes ≤ 3000 := by
  have h1 := lightF_nodes _ _ h
  have h3 : 0 ≤ (x.t.size : Int).tdiv 64 := Int.tdiv_nonneg (by omega) (by omega)
  unfold lightN at h
  omega
set_option maxRecDepth 100000 in
set_option maxHeartbeats 1600000 in
theorem light_any : ∀ (N : Nat) (k : ByteArray) (n : Int) (t : ByteArray) (c : Fo) (cp : Option Addr) (cl cc : Nat) (A : Nat → Prop) (q : Int) (w : World), c.nodes < N → Tv w A k t c cp cl cc → 0 ≤ q → q ≤ 3000 →
    Calls Try.prog 46 #[tv k n t cp cl cc, .int .i64 q] w fun e w' => e = .returned (.int .i64 (lightF c (q - 1 - (t.size : Int).tdiv 64))) ∧ Keeps (fun _ => False) w w' := by
  intro N
  induction N with
  | zero => intros; omega
  | succ N ih =>
    intro k n t c cp cl cc A q w hN h hq0 hq1
    obtain ⟨w1, hw1⟩ : ∃ w1, w1 = w.alloc (.cells (four k n t cp cl cc) T) := ⟨_, rfl⟩
    have hK1 : Keeps (fun _ => False) w w1 := by rw [hw1]; exact (Keeps.refl _ w).alloc _
    have hs1 : w1.heap.size = w.heap.size + 1 := by rw [hw1]; simp
    have hbx : w1.heap[w.heap.size]? = some (.cells (four k n t cp cl cc) T (0, 0)) := by rw [hw1]; exact heap_alloc_new _ _
    have ht1 := h.next hK1
    have hlc := h.lc
    have hcm := h.cm
    have hts := h.size.1
    obtain ⟨c0, c1, c2, c3, _⟩ := box4 hbx
    obtain ⟨q0, hq⟩ : ∃ x, q - 1 - (t.size : Int).tdiv 64 = x := ⟨_, rfl⟩
    obtain ⟨d, hd⟩ : ∃ x, (t.size : Int).tdiv 64 = x := ⟨_, rfl⟩
    have hdb : 0 ≤ d ∧ d ≤ 140737488351232 := by
      have h1 : 0 ≤ (t.size : Int).tdiv 64 := Int.tdiv_nonneg (by omega) (by omega)
      have h2 : (t.size : Int).tdiv 64 ≤ (t.size : Int) := by rw [Int.tdiv_eq_ediv_of_nonneg (by omega)]; omega
      omega
    obtain ⟨hd0, hd1⟩ := hdb
    rw [hq]
    have hqd : q - 1 - d = q0 := by omega
    have hq3 : q0 ≤ 3000 := by omega
    have HW := Lib.hid hw1
    have HI := Lib.hid ih
    have HD := Lib.hid hd
    have HQ := Lib.hid hqd
    clear hw1 ih hqd hq
    go_enter Try.func46, Try.ntmps46
    go_upto_region 1 with fail
    rw [← HW.out]
    go_upto_region 2 with fail
    rw [HQ.out]
    clear hd c0 c1 c2 c3
    go_wp2_with fail
    go_loopg [1, 5] cl (fun m v i W' => ∃ (j : Nat) (r : Int), j + m = cl ∧ v = .int .i64 r ∧ i = .int .i64 j ∧ r ≤ 3000 ∧ lightF c q0 = lightF (c.drop j) r ∧ Keeps (fun _ => False) w1 W')
    case atStart => exact ⟨0, q0, by omega, rfl, rfl, hq3, rfl, Keeps.refl _ _⟩
    case round =>
      obtain ⟨j, r, hjm, rfl, rfl, hr3, hI, hkr⟩ := hrel
      have hbr := hkr.heap hbx
      obtain ⟨b0, b1, b2, b3, _⟩ := box4 hbr
      have HJ := Lib.hid hjm
      have HIr := Lib.hid hI
      have HKR := Lib.hid hkr
      have HF := Lib.hid (hK1.trans hkr)
      clear hjm hI hkr
      by_cases hr0 : 0 ≤ r
      · by_cases hlt : j < cl
        · have htr := ht1.next HKR.out
          obtain ⟨kb, ko, rfl, hAk, hkb⟩ := htr.kids.hasAddr (by omega)
          obtain ⟨k1, n1, t1, s1, r1, hdr⟩ := Fo.drop_lt j c (by rw [ht1.len]; exact hlt)
          obtain ⟨cp1, cl1, cc1, hn1⟩ := htr.kids.at_ j hdr hlt
          have hz := HI.out k1 n1 t1 s1 cp1 cl1 cc1 A r wr (by have := Tv.kidNodes hdr; omega) hn1.tv hr0 hr3
          have HNX := Lib.hid (lightF_step hdr HIr.out hr0)
          obtain ⟨r2, hr2⟩ : ∃ x, lightF s1 (r - 1 - (t1.size : Int).tdiv 64) = x := ⟨_, rfl⟩
          have hr23 : r2 ≤ 3000 := by
            have h3 : 0 ≤ (t1.size : Int).tdiv 64 := Int.tdiv_nonneg (by omega) (by omega)
            by_cases h4 : 0 ≤ lightF s1 (r - 1 - (t1.size : Int).tdiv 64)
            · have := lightF_nodes s1 _ h4; omega
            · omega
          rw [hr2] at hz HNX
          have a0 := hn1.c0
          have a1 := hn1.c1
          have a2 := hn1.c2
          have a3 := hn1.c3
          have hi0' : (0 : Int) ≤ (j : Int) := Int.natCast_nonneg _
          have hi1 : (j : Int) < (cl : Int) := by omega
          have HR2 := Lib.hid hr23
          clear hdr hn1 htr hr2 hr23
          go_wp2_with fail
          refine hz.mono ?_
          clear hz a0 a1 a2 a3 b0 b1 b2 b3
          rintro e W2 ⟨rfl, hkW⟩
          have HKW := Lib.hid hkW
          clear hkW
          go_wp2_with fail
          go_roundg (gk - 1)
          case measure => have := HJ.out; omega
          case rel => exact ⟨j + 1, _, by have := HJ.out; omega, rfl, by go_num, HR2.out, HNX.out, HKR.out.trans HKW.out⟩
        · have hend : c.drop j = .nil := Fo.drop_len_le (by rw [ht1.len]; omega)
          have HE := Lib.hid hend
          clear hend
          go_wp2_with fail
          go_ret
          exact ⟨by rw [HIr.out, HE.out]; rfl, HF.out⟩
      · have HN := Lib.hid (lightF_neg (c.drop j) r (by omega))
        by_cases hlt : j < cl
        all_goals
          go_wp2_with fail
          go_ret
          exact ⟨by rw [HIr.out, HN.out]; rfl, HF.out⟩
set_option maxHeartbeats 400000 in
theorem Light_any (x : Nd) (cp : Option Addr) (cl cc : Nat) (A : Nat → Prop) (w : World) (h : Tv w A x.k x.t x.c cp cl cc) :
    Calls Try.prog 20 #[tv x.k x.n x.t cp cl cc] w fun e w' => e = .returned (.bool (decide (0 ≤ lightN x))) ∧ Keeps (fun _ => False) w w' := by
  obtain ⟨w1, hw1⟩ : ∃ w1, w1 = w.alloc (.cells (four x.k x.n x.t cp cl cc) T) := ⟨_, rfl⟩
  have hK1 : Keeps (fun _ => False) w w1 := by rw [hw1]; exact (Keeps.refl _ w).alloc _
  have hb1 : w1.heap[w.heap.size]? = some (.cells (four x.k x.n x.t cp cl cc) T (0, 0)) := by rw [hw1]; exact heap_alloc_new _ _
  have hz : Hid (Calls Try.prog 46 #[tv x.k x.n x.t cp cl cc, .int .i64 3000] w1 fun e w' => e = .returned (.int .i64 (lightN x)) ∧ Keeps (fun _ => False) w1 w') := light_any (x.c.nodes + 1) x.k x.n x.t x.c cp cl cc _ 3000 w1 (by omega) (h.next hK1) (by omega) (by omega)
  obtain ⟨b0, b1, b2, b3, _⟩ := box4 hb1
  obtain ⟨v, hv⟩ : ∃ v, lightN x = v := ⟨_, rfl⟩
  rw [hv] at hz ⊢
  have HW := Lib.hid hw1
  clear hw1 hv
  go_enter Try.func20, Try.ntmps20
  go_upto_region 1 with fail
  rw [← HW.out]
  go_wp2_with fail
  refine hz.out.mono ?_
  clear hz b0 b1 b2 b3
  rintro e W ⟨rfl, hk⟩
  go_wp2_with fail
  go_ret
  exact ⟨rfl, hK1.trans hk⟩
end Go.Proofs.Ytnphhibfiklfjaa
