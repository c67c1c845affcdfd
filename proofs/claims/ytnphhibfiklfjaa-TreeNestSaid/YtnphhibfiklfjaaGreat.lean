/-
  espalierlaw4.TreeGreat: its walk.
-/
import Derived.Test.YtnphhibfiklfjaaBegun
import Derived.Test.YtnphhibfiklfjaaBase
import Derived.Deep.LoopGhost
set_option linter.unusedVariables false
set_option linter.unusedSimpArgs false
namespace Go.Proofs.Ytnphhibfiklfjaa
open Go.RowKit

theorem KindsR.none {x : Nd} (hx : kindsF x = []) {w : World} {e : Ending} {w' : World} (h : KindsR x w e w') : ∃ vp vl vc, e = .returned (.slice vp vl vc) ∧ vl = 0 ∧ Keeps (fun _ => False) w w' := by
  obtain ⟨vp, vl, vc, he, hr, hk⟩ := h
  exact ⟨vp, vl, vc, he, by rw [row_len hr, hx]; rfl, hk⟩

/-- A tree in a box of the call's own. -/
structure GB (w W : World) (x : Nd) (cp : Option Addr) (cl cc : Nat) (B : Nat) : Prop where
  box : W.heap[B]? = some (.cells (four x.k x.n x.t cp cl cc) T (0, 0))
  keeps : Keeps (fun _ => False) w W
  tv : Tv W (fun b => b < W.heap.size) x.k x.t x.c cp cl cc
theorem GB.next {w W W1 : World} {x cp cl cc B} (h : GB w W x cp cl cc B) (hk : Keeps (fun _ => False) W W1) : GB w W1 x cp cl cc B := ⟨hk.heap h.box, h.keeps.trans hk, (h.tv.next hk).top⟩
theorem GB.start {w : World} {x : Nd} {cp cl cc A} (h : Tv w A x.k x.t x.c cp cl cc) : GB w (w.alloc (.cells (four x.k x.n x.t cp cl cc) T)) x cp cl cc w.heap.size :=
  ⟨heap_alloc_new _ _, (Keeps.refl _ w).alloc _, (h.next ((Keeps.refl _ w).alloc _)).top⟩
theorem GB.cells {w W : World} {x cp cl cc B} (h : GB w W x cp cl cc B) : W.cell? ⟨B, 0, none⟩ = some (.string x.k) ∧ W.cell? ⟨B, 1, none⟩ = some (.int .i64 x.n) ∧ W.cell? ⟨B, 2, none⟩ = some (.string x.t) ∧ W.cell? ⟨B, 3, none⟩ = some (.slice cp cl cc) := by
  obtain ⟨r0, r1, r2, r3, _⟩ := box4 h.box
  exact ⟨r0, r1, r2, r3⟩

set_option maxRecDepth 100000 in
set_option maxHeartbeats 1600000 in
theorem treeGreat_big (x : Nd) (cp : Option Addr) (cl cc : Nat) (A : Nat → Prop) (w : World) (h : Tv w A x.k x.t x.c cp cl cc) (hs : ¬ x.small) :
    Calls Try.prog 6 #[tv x.k x.n x.t cp cl cc] w fun e w' => e = .returned (.bool true) ∧ Keeps (fun _ => False) w w' := by
  have hz : ∀ W, GB w W x cp cl cc w.heap.size → Calls Try.prog 9 #[tv x.k x.n x.t cp cl cc] W fun e w' => e = .returned (.tuple #[.int .i64 1025, .int .i64 65, .int .i64 16385]) ∧ Keeps (fun _ => False) W w' := fun W hW => by
    have := Size_any x.k x.n x.t x.c cp cl cc _ W hW.tv
    rw [show sizeR x.k x.t x.c = (1025, 65, 16385) by rw [sizeR_eq, if_neg hs]] at this
    exact this
  have hcf : ∀ W, GB w W x cp cl cc w.heap.size → Calls Try.prog 24 #[tv x.k x.n x.t cp cl cc] W (TreeRes W (zeroNd, 2)) := fun W hW => by
    have := Copy_any x cp cl cc _ W hW.tv
    rw [copyF, if_neg hs] at this
    exact this
  have haf : ∀ W, GB w W x cp cl cc w.heap.size → Calls Try.prog 11 #[tv x.k x.n x.t cp cl cc, .slice none 0 0] W (TreeRes W (zeroNd, 2)) := fun W hW => by
    have := At_any x [] cp cl cc _ (fun _ => False) none 0 0 W hW.tv (Ints.nil _ _)
    rw [atF, if_neg hs] at this
    exact this
  have hmf : ∀ W, GB w W x cp cl cc w.heap.size → Calls Try.prog 25 #[tv x.k x.n x.t cp cl cc] W fun e w' => e = .returned (.int .i64 2) ∧ Keeps (fun _ => False) W w' := fun W hW => by
    have := May_any x cp cl cc _ W hW.tv
    rw [mayF, if_neg hs] at this
    exact this
  have hsf : ∀ W, GB w W x cp cl cc w.heap.size → Calls Try.prog 12 #[tv x.k x.n x.t cp cl cc, tv x.k x.n x.t cp cl cc] W fun e w' => e = .returned (.bool false) ∧ Keeps (fun _ => False) W w' := fun W hW => by
    have := Same_any x.k x.k x.n x.n x.t x.t x.c x.c cp cp cl cc cl cc _ _ W hW.tv hW.tv
    rw [show big x.k x.t x.c = true by rw [big_small]; simp [hs]] at this
    exact this
  have hkf : ∀ W, GB w W x cp cl cc w.heap.size → Calls Try.prog 26 #[tv x.k x.n x.t cp cl cc] W fun e w' => ∃ vp vc, e = .returned (.slice vp 0 vc) ∧ Keeps (fun _ => False) W w' := fun W hW =>
    (Kinds_any x cp cl cc _ W hW.tv).mono fun e w' hh => by
      obtain ⟨vp, vl, vc, he, rfl, hk⟩ := hh.none (by rw [kindsF, if_neg hs])
      exact ⟨vp, vc, he, hk⟩
  have hG := GB.start (x := x) h
  have HZ := Lib.hid hz
  have HC := Lib.hid hcf
  have HA := Lib.hid haf
  have HM := Lib.hid hmf
  have HS := Lib.hid hsf
  have HK := Lib.hid hkf
  clear hz hcf haf hmf hkf hsf hs h
  go_enter Try.func6, Try.ntmps6
  go_wp2_with fail
  refine (begun_any _).mono ?_
  rintro e W1 ⟨rfl, hk⟩
  have hG := hG.next hk
  clear hk
  obtain ⟨e0', e1, e2, e3⟩ := hG.cells
  go_wp2_with fail
  refine (HZ.out _ hG).mono ?_
  rintro e W2 ⟨rfl, hk⟩
  have hG := hG.next hk
  clear hk e0' e1 e2 e3
  obtain ⟨e0', e1, e2, e3⟩ := hG.cells
  go_wp2_with fail
  refine (HC.out _ hG).mono ?_
  rintro e W3 hr
  obtain ⟨cp3, cl3, cc3, A3, rfl, _, hk⟩ := TreeRes.out hr
  have hG := (hG.next hk).next ((Keeps.refl _ _).alloc (.cells (four e0 0 e0 cp3 cl3 cc3) T))
  clear hk e0' e1 e2 e3 hr
  obtain ⟨e0', e1, e2, e3⟩ := hG.cells
  go_wp2_with fail
  refine (HA.out _ hG).mono ?_
  rintro e W4 hr
  obtain ⟨cp4, cl4, cc4, A4, rfl, _, hk⟩ := TreeRes.out hr
  have hG := (hG.next hk).next ((Keeps.refl _ _).alloc (.cells (four e0 0 e0 cp4 cl4 cc4) T))
  clear hk e0' e1 e2 e3 hr
  obtain ⟨e0', e1, e2, e3⟩ := hG.cells
  go_wp2_with fail
  refine (HM.out _ hG).mono ?_
  rintro e W5 ⟨rfl, hk⟩
  have hG := hG.next hk
  clear hk e0' e1 e2 e3
  obtain ⟨e0', e1, e2, e3⟩ := hG.cells
  go_wp2_with fail
  refine (HS.out _ hG).mono ?_
  rintro e W6 ⟨rfl, hk⟩
  have hG := hG.next hk
  clear hk e0' e1 e2 e3
  obtain ⟨e0', e1, e2, e3⟩ := hG.cells
  go_wp2_with fail
  refine (HK.out _ hG).mono ?_
  rintro e W7 ⟨vp, vc, rfl, hk⟩
  have hG := hG.next hk
  clear hk e0' e1 e2 e3
  go_wp2_with fail
  go_ret
  exact ⟨rfl, hG.keeps⟩

theorem Fo.nodes_snoc (f : Fo) (k n t c) : (f.snoc k n t c).nodes = f.nodes + (c.nodes + 1) := by
  induction f with
  | nil => simp [Fo.snoc, Fo.nodes]
  | cons k0 n0 t0 c0 r _ ih => simp only [Fo.snoc, Fo.nodes, ih]; omega
theorem Fo.depth_snoc (f : Fo) (k n t c) : (f.snoc k n t c).depth = max f.depth (c.depth + 1) := by
  induction f with
  | nil => simp [Fo.snoc, Fo.depth]
  | cons k0 n0 t0 c0 r _ ih => simp only [Fo.snoc, Fo.depth, ih]; omega
theorem Fo.bytes_snoc (f : Fo) (k n t c) : (f.snoc k n t c).bytes = f.bytes + (t.size + c.bytes) := by
  induction f with
  | nil => simp [Fo.snoc, Fo.bytes]
  | cons k0 n0 t0 c0 r _ ih => simp only [Fo.snoc, Fo.bytes, ih]; omega
theorem Fo.nodes_take (i : Nat) (f : Fo) : (Fo.take i f).nodes ≤ f.nodes := by
  induction i generalizing f with
  | zero => simp [Fo.take, Fo.nodes]
  | succ i ih => cases f with
    | nil => simp [Fo.take]
    | cons k n t c r => have := ih r; simp only [Fo.take, Fo.nodes]; omega
theorem Fo.depth_take (i : Nat) (f : Fo) : (Fo.take i f).depth ≤ f.depth := by
  induction i generalizing f with
  | zero => simp [Fo.take, Fo.depth]
  | succ i ih => cases f with
    | nil => simp [Fo.take]
    | cons k n t c r => have := ih r; simp only [Fo.take, Fo.depth]; omega
theorem Fo.bytes_take (i : Nat) (f : Fo) : (Fo.take i f).bytes ≤ f.bytes := by
  induction i generalizing f with
  | zero => simp [Fo.take, Fo.bytes]
  | succ i ih => cases f with
    | nil => simp [Fo.take]
    | cons k n t c r => have := ih r; simp only [Fo.take, Fo.bytes]; omega
/-- A kid of a small tree is small; the sums go on. -/
theorem Nd.kid_small {x : Nd} (hs : x.small) {j : Nat} {k n t c r} (hd : x.c.drop j = .cons k n t c r) : (⟨k, n, t, c⟩ : Nd).small ∧
    ((Fo.take (j + 1) x.c).nodes = (Fo.take j x.c).nodes + (c.nodes + 1) ∧ (Fo.take (j + 1) x.c).depth = max (Fo.take j x.c).depth (c.depth + 1) ∧ (Fo.take (j + 1) x.c).bytes = (Fo.take j x.c).bytes + (t.size + c.bytes)) := by
  have h := Fo.take_step hd
  have h1 : (Fo.take (j + 1) x.c).nodes = (Fo.take j x.c).nodes + (c.nodes + 1) := by rw [h, Fo.nodes_snoc]
  have h2 : (Fo.take (j + 1) x.c).depth = max (Fo.take j x.c).depth (c.depth + 1) := by rw [h, Fo.depth_snoc]
  have h3 : (Fo.take (j + 1) x.c).bytes = (Fo.take j x.c).bytes + (t.size + c.bytes) := by rw [h, Fo.bytes_snoc]
  have g1 := Fo.nodes_take (j + 1) x.c
  have g2 := Fo.depth_take (j + 1) x.c
  have g3 := Fo.bytes_take (j + 1) x.c
  obtain ⟨s1, s2, s3⟩ := hs
  simp only [Nd.nodes, Nd.depth, Nd.bytes] at s1 s2 s3
  refine ⟨⟨?_, ?_, ?_⟩, h1, h2, h3⟩
  · simp only [Nd.nodes]; omega
  · simp only [Nd.depth]; omega
  · simp only [Nd.bytes]; omega

set_option maxRecDepth 100000 in
set_option maxHeartbeats 1600000 in
theorem treeGreat_small (x : Nd) (cp : Option Addr) (cl cc : Nat) (A : Nat → Prop) (w : World) (h : Tv w A x.k x.t x.c cp cl cc) (hs : x.small) :
    Calls Try.prog 6 #[tv x.k x.n x.t cp cl cc] w fun e w' => e = .returned (.bool true) ∧ Keeps (fun _ => False) w w' := by
  obtain ⟨xn, hxn⟩ : ∃ xn : Int, xn = (x.nodes : Int) := ⟨_, rfl⟩
  obtain ⟨xd, hxd⟩ : ∃ xd : Int, xd = (x.depth : Int) := ⟨_, rfl⟩
  obtain ⟨xb, hxb⟩ : ∃ xb : Int, xb = (x.bytes : Int) := ⟨_, rfl⟩
  have hz : ∀ W, GB w W x cp cl cc w.heap.size → Calls Try.prog 9 #[tv x.k x.n x.t cp cl cc] W fun e w' => e = .returned (.tuple #[.int .i64 xn, .int .i64 xd, .int .i64 xb]) ∧ Keeps (fun _ => False) W w' := fun W hW => by
    have := Size_any x.k x.n x.t x.c cp cl cc _ W hW.tv
    rw [show sizeR x.k x.t x.c = (xn, xd, xb) by rw [sizeR_eq, if_pos hs, hxn, hxd, hxb]] at this
    exact this
  have b1 : (xn == 1025) = false := by have := hs.1; simp; omega
  have b2 : (xd == 65) = false := by have := hs.2.1; simp; omega
  have b3 : (xb == 16385) = false := by have := hs.2.2; simp; omega
  have hG := GB.start (x := x) h
  have hlc := h.lc
  have hcm := h.cm
  have hlen := h.len
  have hts : x.t.size ≤ 16384 := by have := hs.2.2; simp only [Nd.bytes] at this; omega
  have HZ := Lib.hid hz
  have HN := Lib.hid hxn
  have HD := Lib.hid hxd
  have HX := Lib.hid hxb
  have HS := Lib.hid hs
  have HL := Lib.hid hlen
  clear hz hs h hxn hxd hxb hlen
  go_enter Try.func6, Try.ntmps6
  go_wp2_with fail
  refine (begun_any _).mono ?_
  rintro e W1 ⟨rfl, hk⟩
  have hG := hG.next hk
  clear hk
  obtain ⟨e0', e1, e2, e3⟩ := hG.cells
  go_wp2_with fail
  refine (HZ.out _ hG).mono ?_
  rintro e W2 ⟨rfl, hk⟩
  have hG := hG.next hk
  clear hk e0' e1 e2 e3
  obtain ⟨e0', e1, e2, e3⟩ := hG.cells
  go_wp2_with fail
  go_quiet (fail)
  rename_i nq
  obtain ⟨W3, hW3⟩ : ∃ W3, W3 = W2.drewN nq := ⟨_, rfl⟩
  have hG := hG.next ((Keeps.refl _ W2).drewN nq)
  rw [← hW3] at hG ⊢
  clear hW3 e0' e1 e2 e3
  go_wp2_with fail
  go_loopg [10, 11, 12, 13] cl (fun m n d b i W => ∃ j : Nat, j + m = cl ∧ i = .int .i64 j ∧ n = .int .i64 (((Fo.take j x.c).nodes + 1 : Nat) : Int) ∧ d = .int .i64 ((Fo.take j x.c).depth : Int) ∧ b = .int .i64 ((x.t.size + (Fo.take j x.c).bytes : Nat) : Int) ∧ GB w W x cp cl cc w.heap.size)
  case atStart => exact ⟨0, by omega, rfl, rfl, rfl, rfl, hG⟩
  case round =>
    obtain ⟨j, hjm, rfl, rfl, rfl, rfl, hG⟩ := hrel
    obtain ⟨e0', e1, e2, e3⟩ := hG.cells
    by_cases hlt : j < cl
    · obtain ⟨kb, ko, rfl, _, hkb⟩ := hG.tv.kids.hasAddr (by omega)
      obtain ⟨k1, n1, t1, s1, r1, hdr⟩ := Fo.drop_lt j x.c (by rw [HL.out]; exact hlt)
      obtain ⟨cp1, cl1, cc1, hn1⟩ := hG.tv.kids.at_ j hdr hlt
      obtain ⟨hsm, g1, g2, g3⟩ := Nd.kid_small HS.out hdr
      obtain ⟨a, ha⟩ : ∃ a : Nat, a = (Fo.take j x.c).nodes + 1 := ⟨_, rfl⟩
      obtain ⟨b, hb⟩ : ∃ a : Nat, a = (Fo.take j x.c).depth := ⟨_, rfl⟩
      obtain ⟨c, hc⟩ : ∃ a : Nat, a = x.t.size + (Fo.take j x.c).bytes := ⟨_, rfl⟩
      have l1 := Fo.nodes_take j x.c
      have l2 := Fo.depth_take j x.c
      have l3 := Fo.bytes_take j x.c
      have hxs := HS.out
      obtain ⟨x1, x2, x3⟩ := hxs
      simp only [Nd.nodes, Nd.depth, Nd.bytes] at x1 x2 x3
      obtain ⟨a', ha'⟩ : ∃ a : Int, a = (s1.nodes + 1 : Nat) := ⟨_, rfl⟩
      obtain ⟨b', hb'⟩ : ∃ a : Int, a = (s1.depth + 1 : Nat) := ⟨_, rfl⟩
      obtain ⟨c', hc'⟩ : ∃ a : Int, a = (t1.size + s1.bytes : Nat) := ⟨_, rfl⟩
      have hz := Size_any k1 n1 t1 s1 cp1 cl1 cc1 _ wr hn1.tv
      rw [show sizeR k1 t1 s1 = (a', b', c') by rw [sizeR_eq ⟨k1, n1, t1, s1⟩, if_pos hsm, ha', hb', hc']; rfl] at hz
      obtain ⟨y1, y2, y3⟩ := hsm
      simp only [Nd.nodes, Nd.depth, Nd.bytes] at y1 y2 y3
      have z1 : a ≤ 1024 ∧ b ≤ 64 ∧ c ≤ 16384 := by omega
      have z2 : 0 ≤ a' ∧ 0 ≤ b' ∧ 0 ≤ c' := by omega
      have z3 : a' ≤ 1024 ∧ b' ≤ 64 ∧ c' ≤ 16384 := by omega
      obtain ⟨z1a, z1b, z1c⟩ := z1
      obtain ⟨z2a, z2b, z2c⟩ := z2
      obtain ⟨z3a, z3b, z3c⟩ := z3
      rw [← ha, ← hb, ← hc]
      have HA := Lib.hid ha
      have HB := Lib.hid hb
      have HC := Lib.hid hc
      have HA' := Lib.hid ha'
      have HB' := Lib.hid hb'
      have HC' := Lib.hid hc'
      have G1 := Lib.hid g1
      have G2 := Lib.hid g2
      have G3 := Lib.hid g3
      have HJ := Lib.hid hjm
      have a0 := hn1.c0
      have a1 := hn1.c1
      have a2 := hn1.c2
      have a3 := hn1.c3
      clear ha hb hc ha' hb' hc' g1 g2 g3 hjm l1 l2 l3 x1 x2 x3 y1 y2 y3 hdr hn1
      have hi0' : (0 : Int) ≤ (j : Int) := Int.natCast_nonneg _
      have hi1 : (j : Int) < (cl : Int) := by omega
      go_wp2_with fail
      refine hz.mono ?_
      clear hz
      rintro e W5 ⟨rfl, hk⟩
      have hG := hG.next hk
      clear hk e0' e1 e2 e3 a0 a1 a2 a3
      go_wp2_with fail
      all_goals
        go_roundg (gk - 1)
        case measure => have := HJ.out; omega
        case rel =>
          have := HA.out; have := HB.out; have := HC.out; have := HA'.out; have := HB'.out; have := HC'.out; have := G1.out; have := G2.out; have := G3.out; have := HJ.out
          refine ⟨j + 1, by omega, by go_num, congrArg (Value.int .i64) (by omega), congrArg (Value.int .i64) (by omega), congrArg (Value.int .i64) (by omega), hG⟩
    · have hjc : j = cl := by omega
      subst hjc
      have ht : Fo.take j x.c = x.c := Fo.take_len (by rw [HL.out]; exact Nat.le_refl _)
      have q1 : xn = (((Fo.take j x.c).nodes + 1 : Nat) : Int) := by rw [HN.out, ht]; rfl
      have q2 : xd = ((Fo.take j x.c).depth : Int) + 1 := by rw [HD.out, ht]; rfl
      have q3 : xb = ((x.t.size + (Fo.take j x.c).bytes : Nat) : Int) := by rw [HX.out, ht]; rfl
      obtain ⟨d, hd⟩ : ∃ d : Int, d = ((Fo.take j x.c).depth : Int) := ⟨_, rfl⟩
      have hd0 : 0 ≤ d := by omega
      have hd1 : d ≤ 64 := by have := HS.out.2.1; have := Fo.depth_take j x.c; simp only [Nd.depth] at *; omega
      rw [← hd] at q2 ⊢
      rw [← q1, ← q3]
      subst q2
      clear q1 q3 hd ht hjm
      go_wp2_with fail
      go_ret
      exact ⟨rfl, hG.keeps⟩
end Go.Proofs.Ytnphhibfiklfjaa
