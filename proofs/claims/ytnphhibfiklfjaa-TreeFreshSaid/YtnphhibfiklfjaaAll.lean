/-
  espalierref4.all, All: their walks.
-/
import Derived.Test.YtnphhibfiklfjaaPkD

import Derived.Test.YtnphhibfiklfjaaOver

import Derived.Deep.RegionHeld3

import Derived.Deep.Cut

set_option linter.unusedVariables false

set_option linter.unusedSimpArgs false

namespace Go.Proofs.Ytnphhibfiklfjaa

open Go.RowKit

theorem Try.stepInfo : (Try.prog.info? TS).map (fun i => (i.zero, i.size, i.bytes)) = some (some (.agg #[.slice none 0 0, .string ByteArray.empty, .int .i64 0, .string ByteArray.empty, .slice none 0 0]), 5, 88) := by kernel_rfl
/-- What all leaves. -/
def AllR (D : Nat) (L : List (List Int × Nd)) (lp : Option Addr) (ll lc : Nat) (w : World) (e : Ending) (w' : World) : Prop :=
  ∃ lp' ll' lc' xs' bs', e = .returned (.slice lp' ll' lc') ∧ StepsI D w' L lp' ll' lc' xs' bs' ∧ Keeps (fun b => (Value.slice lp ll lc).ownBlock = some b) w w' ∧ (∀ g, (Value.slice lp' ll' lc').ownBlock = some g → (Value.slice lp ll lc).ownBlock = some g ∨ w.heap.size ≤ g)
/-- The first statement: the node itself is laid. -/
def AllS (D : Nat) (L : List (List Int × Nd)) (lp : Option Addr) (ll lc : Nat) (w : World) (v : Value) (w' : World) : Prop := AllR D L lp ll lc w (.returned v) w'

set_option maxRecDepth 100000 in
set_option maxHeartbeats 3200000 in
theorem all_any : ∀ (N : Nat), N ≤ 2000 → ∀ (x : Nd) (p : List Int) (pv : Value) (cp : Option Addr) (cl cc : Nat) (D : Nat) (L : List (List Int × Nd)) (lp : Option Addr) (ll lc : Nat) (xs : List Value) (bs : List Nat) (w : World),
    x.c.nodes < N → p.length + N ≤ 10000 → L.length + x.c.nodes < 10000 → D ≤ w.heap.size → Tv w (fun b => b < D) x.k x.t x.c cp cl cc → Row w pv p → StepsI D w L lp ll lc xs bs →
    Calls Try.prog 44 #[.slice lp ll lc, tv x.k x.n x.t cp cl cc, pv] w (AllR D (L ++ pre p x) lp ll lc w) := by
  intro N
  induction N with
  | zero => intros; omega
  | succ N ih =>
    intro hN1 x p pv cp cl cc D L lp ll lc xs bs w hcN hpN hLN hD h hpr hL
    obtain ⟨i0, hi0, hz0, hz1, hz2⟩ := info_parts Try.intInfo
    obtain ⟨i5, hi5, hy0, hy1, hy2⟩ := info_parts Try.stepInfo
    obtain ⟨w1, hw1⟩ : ∃ w1, w1 = w.alloc (.cells (four x.k x.n x.t cp cl cc) T) := ⟨_, rfl⟩
    have hK1 : Keeps (fun _ => False) w w1 := by rw [hw1]; exact (Keeps.refl _ w).alloc _
    have hs1 : w1.heap.size = w.heap.size + 1 := by rw [hw1]; simp
    have hb1 : w1.heap[w.heap.size]? = some (.cells (four x.k x.n x.t cp cl cc) T (0, 0)) := by rw [hw1]; exact heap_alloc_new _ _
    have ht1 := h.next hK1
    have hpr1 := hpr.keeps hK1 (fun g hg => ⟨hpr.lt hg, fun h => h⟩)
    have hL1 := hL.keeps hK1 (fun _ h => h.elim)
    obtain ⟨pp, pc, rfl, hints⟩ := hpr1.ints (by omega)
    have hlc := h.lc
    have hcm := h.cm
    have hlen := h.len
    have hcl : cl ≤ 2000 := by have h1 := Fo.len_nodes x.c; omega
    have HLL := Lib.hid hlen
    have HI := Lib.hid ih
    have HW1 := Lib.hid hw1
    clear hw1 hlen ih
    go_enter Try.func44, Try.ntmps44
    go_upto_region 1 with fail
    rw [← HW1.out]
    go_cut [0] from 8 (AllS D (L ++ [(p, x)]) lp ll lc w1)
    case first =>
      have hbl : (Value.slice lp ll lc).ownBlock ≠ some w.heap.size := fun e => by
        obtain ⟨_, cur, h1⟩ := hL1.blk e
        rw [hb1] at h1
        simp only [Option.some.injEq, Obj.cells.injEq] at h1
        exact absurd h1.2.1 (by decide)
      have hOWN : Hid (∀ W', Keeps (fun _ => False) w1 W' → Calls Try.prog 63 #[tv x.k x.n x.t cp cl cc] W' (TwinR x.k x.n x.t x.c W')) := Lib.hid fun W' hk =>
        rOwn_any (N + 1) (by omega) x.k x.n x.t x.c _ cp cl cc W' hcN (ht1.next hk)
      have hCl : Hid (∀ W', Keeps (fun _ => False) w1 W' → Ints W' _ p pp p.length) := Lib.hid fun W' hk => hints.keeps hk (fun _ _ h => h)
      have hS : Hid (∀ W', Keeps (fun _ => False) w1 W' → W'.cell? ⟨w.heap.size, 0, none⟩ = some (.string x.k) ∧ W'.cell? ⟨w.heap.size, 1, none⟩ = some (.int .i64 x.n) ∧ W'.cell? ⟨w.heap.size, 2, none⟩ = some (.string x.t) ∧ W'.cell? ⟨w.heap.size, 3, none⟩ = some (.slice cp cl cc)) := Lib.hid fun W' hk => by
        obtain ⟨a0, a1, a2, a3, _⟩ := box4 (hk.heap hb1)
        exact ⟨a0, a1, a2, a3⟩
      have hS2 : Hid (∀ W', Keeps (fun b => (Value.slice lp ll lc).ownBlock = some b) w1 W' → W'.cell? ⟨w.heap.size, 0, none⟩ = some (.string x.k) ∧ W'.cell? ⟨w.heap.size, 1, none⟩ = some (.int .i64 x.n) ∧ W'.cell? ⟨w.heap.size, 2, none⟩ = some (.string x.t) ∧ W'.cell? ⟨w.heap.size, 3, none⟩ = some (.slice cp cl cc)) := Lib.hid fun W' hk => by
        obtain ⟨a0, a1, a2, a3, _⟩ := box4 ((hk.block _ (heap_lt hb1) hbl).trans hb1)
        exact ⟨a0, a1, a2, a3⟩
      have hLK : Hid (∀ W', Keeps (fun _ => False) w1 W' → StepsI D W' L lp ll lc xs bs) := Lib.hid fun W' hk => hL1.keeps hk (fun _ h => h.elim)
      have hD1 : D ≤ w1.heap.size := by omega
      have hk : Keeps (fun _ => False) w1 w1 := Keeps.refl _ _
      go_region_held3 (fun W' => W'.cell? ⟨w.heap.size, 0, none⟩ = some (.string x.k) ∧ W'.cell? ⟨w.heap.size, 1, none⟩ = some (.int .i64 x.n) ∧ W'.cell? ⟨w.heap.size, 2, none⟩ = some (.string x.t) ∧ W'.cell? ⟨w.heap.size, 3, none⟩ = some (.slice cp cl cc))
        (first | exact hS2.out _ hk3 | exact hS.out _ (by repeat' (first | exact hk | refine Keeps.drew ?_ | refine Keeps.alloc ?_ _)))
        (first
          | ((refine step_clone (by rfl) _ _ _ (by rfl) i0 _ Try.underlying32 hi0 hz0 hz1 hz2 rfl (by rfl) pc (by rfl) (hCl.out _ (by repeat' (first | exact hk | refine Keeps.drew ?_ | refine Keeps.alloc ?_ _))) (by omega) ?_; intro qv Wc hqr hkc hqg; obtain ⟨gp, gc, rfl, hqi⟩ := hqr.ints (by omega); have hq1 : ∀ g, (Value.slice gp p.length gc).ownBlock = some g → w1.heap.size ≤ g := fun g hg => Nat.le_trans (Keeps.size (S := fun _ => False) (by repeat' (first | exact hk | refine Keeps.drew ?_ | refine Keeps.alloc ?_ _))) (hqg g hg); (try (have hO := hO.keeps hkc (fun b hb => ⟨hNw.hi b hb, fun h => h⟩); have hNw := hNw.keeps hkc)); have hk := Keeps.trans (w := w1) (by repeat' (first | exact hk | refine Keeps.drew ?_ | refine Keeps.alloc ?_ _)) hkc))
          | ((go_simp; go_at_call 63; refine (hOWN.out _ (by repeat' (first | exact hk | refine Keeps.drew ?_ | refine Keeps.alloc ?_ _))).mono ?_; rintro e Wo ⟨cp1, cl1, cc1, bs1, rfl, hO, hNw, hko⟩; have hn1 : ∀ b, b ∈ bs1 → w1.heap.size ≤ b := fun b hb => Nat.le_trans (Keeps.size (S := fun _ => False) (by repeat' (first | exact hk | refine Keeps.drew ?_ | refine Keeps.alloc ?_ _))) (hNw.lo b hb); (try (have hqr := hqr.keeps hko (fun g hg => ⟨hqr.lt hg, fun h => h⟩))); have hk := Keeps.trans (w := w1) (by repeat' (first | exact hk | refine Keeps.drew ?_ | refine Keeps.alloc ?_ _)) hko))
          | (((first | refine step_append_lies _ (by rfl) _ _ _ (by rfl) D TS i5 _ 5 88 Try.underlying40 hi5 hy0 hy1 hy2 rfl (by omega) (.slice lp ll lc) L.length xs (by rfl) (hLK.out _ (by repeat' (first | exact hk | refine Keeps.drew ?_ | refine Keeps.alloc ?_ _))).row ⟨Wo.heap.size, 0, none⟩ 1 1 [.slice gp p.length gc, .string x.k, .int .i64 x.n, .string x.t, .slice cp1 cl1 cc1] (by rfl) (by rfl) (World.news_of_block (cs := #[.slice gp p.length gc, .string x.k, .int .i64 x.n, .string x.t, .slice cp1 cl1 cc1]) (t := TS) (fr := (0, 0)) (heap_alloc_new Wo _)) (by simp [Value.oneCell']) (by omega) (by unfold maxLen; omega) (by omega) (by have hks := hk.size; simp; omega) (Wo.heap.size + 1) (by simp) ?_ | refine step_append_lies _ (by rfl) _ _ _ (by rfl) D TS i5 _ 5 88 Try.underlying40 hi5 hy0 hy1 hy2 rfl (by omega) (.slice lp ll lc) L.length xs (by rfl) (hLK.out _ (by repeat' (first | exact hk | refine Keeps.drew ?_ | refine Keeps.alloc ?_ _))).row ⟨Wc.heap.size, 0, none⟩ 1 1 [.slice gp p.length gc, .string x.k, .int .i64 x.n, .string x.t, .slice cp1 cl1 cc1] (by rfl) (by rfl) (World.news_of_block (cs := #[.slice gp p.length gc, .string x.k, .int .i64 x.n, .string x.t, .slice cp1 cl1 cc1]) (t := TS) (fr := (0, 0)) (heap_alloc_new Wc _)) (by simp [Value.oneCell']) (by omega) (by unfold maxLen; omega) (by omega) (by have hks := hk.size; simp; omega) (Wc.heap.size + 1) (by simp) ?_); intro gg cap w3 hown3 hgrow3 hat3 hlt3; have hk3 : Keeps (fun b => (Value.slice lp ll lc).ownBlock = some b) w1 w3 := (Keeps.mono (S := fun _ => False) (by repeat' (first | exact hk | refine Keeps.drew ?_ | refine Keeps.alloc ?_ _)) (fun _ h _ => h.elim)).trans (Keeps.grown (Keeps.refl _ _) hgrow3 (fun k hk _ => hk)))))
      all_goals
        go_wp2_with fail
        go_meet
        case rel =>
          refine ⟨some ⟨gg, 0, none⟩, L.length + 1, cap, _, _, rfl, hL1.push (hk.alloc _) h.size (hqr.keeps ((Keeps.refl (fun _ => False) _).alloc _) (fun g hg => ⟨hqr.lt hg, fun h => h⟩)) (hO.keeps ((Keeps.refl (fun _ => False) _).alloc _) (fun b hb => ⟨hNw.hi b hb, fun h => h⟩)) (fun b hb => ?_) hown3 hgrow3, hk3, fun g hg => ?_⟩
          · rcases hb with hb | hb
            · have := hq1 b hb; omega
            · have := hn1 b hb; omega
          · have hgg : g = gg := by simpa [Value.ownBlock] using hg.symm
            subst hgg
            have hks := hk.size
            rcases hat3 with h1 | h1
            · exact .inl h1
            · exact .inr (by omega)
    case rest =>
      obtain ⟨W2, hW2⟩ : ∃ V, V = wc := ⟨_, rfl⟩
      subst hW2
      obtain ⟨lp2, ll2, lc2, xs2, bs2, hu0, hL2, hk2, hg2⟩ := hcut
      simp only [Ending.returned.injEq] at hu0
      subst hu0
      have HPR := Lib.hid hpr1
      have HL1 := Lib.hid hL1
      clear hpr1 hL1
      go_wp2_with fail
      go_loopg [0, 7] cl (fun m l i W => ∃ j : Nat, j + m = cl ∧ i = .int .i64 j ∧ ∃ Lj lpj llj lcj xsj bsj, l = .slice lpj llj lcj ∧ StepsI D W Lj lpj llj lcj xsj bsj ∧ Lj ++ preK p j (x.c.drop j) = L ++ pre p x ∧ Keeps (fun b => (Value.slice lp ll lc).ownBlock = some b) w1 W ∧ (∀ g, (Value.slice lpj llj lcj).ownBlock = some g → (Value.slice lp ll lc).ownBlock = some g ∨ w1.heap.size ≤ g))
      case atStart => exact ⟨0, by omega, rfl, _, _, _, _, _, _, rfl, hL2, by simp [pre, Fo.drop], hk2, hg2⟩
      case round =>
        obtain ⟨j, hjm, rfl, Lj, lpj, llj, lcj, xsj, bsj, rfl, hLj, hLe, hkr, hgj⟩ := hrel
        have hblr : (Value.slice lp ll lc).ownBlock ≠ some w.heap.size := fun e => by
          have := (hL.row.lt _ e).2; omega
        have hbr := (hkr.block _ (heap_lt hb1) hblr).trans hb1
        obtain ⟨b0, b1, b2, b3, _⟩ := box4 hbr
        have HJ := Lib.hid hjm
        have HLJ := Lib.hid hLj
        have HLE := Lib.hid hLe
        have HKR := Lib.hid hkr
        have HGJ := Lib.hid hgj
        have hks := hkr.size
        clear hjm hL2 hk2 hg2
        by_cases hlt : j < cl
        · have htr := ht1.keeps hkr (fun b hb e => by have := (hL.row.lt _ e).1; omega)
          obtain ⟨kb, ko, rfl, hAk, hkb⟩ := htr.kids.hasAddr (by omega)
          obtain ⟨k1, n1, t1, s1, r1, hdr⟩ := Fo.drop_lt j x.c (by rw [HLL.out]; exact hlt)
          obtain ⟨cp1, cl1, cc1, hn1⟩ := htr.kids.at_ j hdr hlt
          have hcN1 : s1.nodes < N := by
            have h1 := Fo.nodes_drop j x.c
            rw [hdr] at h1
            simp only [Fo.nodes] at h1
            omega
          have hlen : Lj.length + s1.nodes < 10000 := by
            have h1 := congrArg List.length hLe
            simp only [List.length_append, preK_len, pre_len, hdr, Fo.nodes] at h1
            omega
          have hALL : Hid (∀ (W' : World) (g2 cap2 : Nat), Keeps (fun _ => False) wr W' → Row W' (.slice (some ⟨g2, 0, none⟩) (p.length + 1) cap2) (p ++ [(j : Int)]) → Calls Try.prog 44 #[.slice lpj llj lcj, tv k1 n1 t1 cp1 cl1 cc1, .slice (some ⟨g2, 0, none⟩) (p.length + 1) cap2] W' (AllR D (Lj ++ pre (p ++ [(j : Int)]) ⟨k1, n1, t1, s1⟩) lpj llj lcj W')) := Lib.hid fun W' g2 cap2 hk hrow =>
            HI.out (by omega) ⟨k1, n1, t1, s1⟩ (p ++ [(j : Int)]) _ cp1 cl1 cc1 D Lj lpj llj lcj xsj bsj W' hcN1 (by simp; omega) hlen (by have := hk.size; omega) (hn1.tv.next hk) hrow (hLj.keeps hk (fun _ h => h.elim))
          have hprr : Row wr (.slice pp p.length pc) p := HPR.out.keeps hkr (fun g hg => ⟨HPR.out.lt hg, fun e => by
            obtain ⟨_, cur, h1⟩ := HL1.out.blk e
            obtain ⟨cur', h2⟩ := HPR.out.shape g hg
            rw [h1] at h2
            simp only [Option.some.injEq, Obj.cells.injEq] at h2
            exact absurd h2.2.1 (by decide)⟩)
          obtain ⟨pp', pc', he', hir⟩ := hprr.ints (by omega)
          simp only [Value.slice.injEq] at he'
          obtain ⟨rfl, _, rfl⟩ := he'
          have hCl : Hid (∀ W', Keeps (fun _ => False) wr W' → Ints W' _ p pp p.length) := Lib.hid fun W' hk => hir.keeps hk (fun _ _ h => h)
          have hS2 : Hid (∀ W', Keeps (fun b => (Value.slice lpj llj lcj).ownBlock = some b) wr W' → W'.cell? ⟨w.heap.size, 3, none⟩ = some (.slice (some ⟨kb, ko, none⟩) cl cc) ∧ W'.cell? ⟨kb, ko + j * 4, none⟩ = some (.string k1) ∧ W'.cell? ⟨kb, ko + j * 4 + 1, none⟩ = some (.int .i64 n1) ∧ W'.cell? ⟨kb, ko + j * 4 + 2, none⟩ = some (.string t1) ∧ W'.cell? ⟨kb, ko + j * 4 + 3, none⟩ = some (.slice cp1 cl1 cc1)) := Lib.hid fun W' hk => by
            have hbj : (Value.slice lpj llj lcj).ownBlock ≠ some w.heap.size := fun e => by
              obtain ⟨_, cur, h1⟩ := hLj.blk e
              rw [hbr] at h1
              simp only [Option.some.injEq, Obj.cells.injEq] at h1
              exact absurd h1.2.1 (by decide)
            obtain ⟨_, _, _, a3, _⟩ := box4 ((hk.block _ (heap_lt hbr) hbj).trans hbr)
            have hn2 := hn1.keeps hk (fun b hb e => by have := (hLj.row.lt _ e).1; omega) hkb (fun e => by have := (hLj.row.lt _ e).1; omega)
            exact ⟨a3, hn2.c0, hn2.c1, hn2.c2, hn2.c3⟩
          have hS : Hid (∀ W', Keeps (fun _ => False) wr W' → W'.cell? ⟨w.heap.size, 3, none⟩ = some (.slice (some ⟨kb, ko, none⟩) cl cc) ∧ W'.cell? ⟨kb, ko + j * 4, none⟩ = some (.string k1) ∧ W'.cell? ⟨kb, ko + j * 4 + 1, none⟩ = some (.int .i64 n1) ∧ W'.cell? ⟨kb, ko + j * 4 + 2, none⟩ = some (.string t1) ∧ W'.cell? ⟨kb, ko + j * 4 + 3, none⟩ = some (.slice cp1 cl1 cc1)) := Lib.hid fun W' hk => hS2.out _ (hk.mono fun _ h _ => h.elim)
          have hk : Keeps (fun _ => False) wr wr := Keeps.refl _ _
          have hi0' : (0 : Int) ≤ (j : Int) := Int.natCast_nonneg _
          have hi1 : (j : Int) < (cl : Int) := by omega
          have HD := Lib.hid hdr
          clear hdr hn1 htr hLj hLe hkr hgj hlen hprr hir
          go_wp2_with fail
          go_region_held3 (fun W' => W'.cell? ⟨w.heap.size, 3, none⟩ = some (.slice (some ⟨kb, ko, none⟩) cl cc) ∧ W'.cell? ⟨kb, ko + j * 4, none⟩ = some (.string k1) ∧ W'.cell? ⟨kb, ko + j * 4 + 1, none⟩ = some (.int .i64 n1) ∧ W'.cell? ⟨kb, ko + j * 4 + 2, none⟩ = some (.string t1) ∧ W'.cell? ⟨kb, ko + j * 4 + 3, none⟩ = some (.slice cp1 cl1 cc1))
            (first | exact hS2.out _ hk4 | exact hS.out _ (by repeat' (first | exact hk | refine Keeps.drew ?_ | refine Keeps.alloc ?_ _)))
            (first
              | ((go_simp; go_at_call 44; refine (hALL.out _ _ _ hk hrow3).mono ?_; rintro e W4 ⟨lp4, ll4, lc4, xs4, bs4, rfl, hL4, hk4', hg4⟩; have hk4 : Keeps (fun b => (Value.slice lpj llj lcj).ownBlock = some b) wr W4 := (Keeps.mono (S := fun _ => False) hk (fun _ h _ => h.elim)).trans hk4'))
              | ((refine step_clone (by rfl) _ _ _ (by rfl) i0 _ Try.underlying32 hi0 hz0 hz1 hz2 rfl (by rfl) pc (by rfl) (hCl.out _ (by repeat' (first | exact hk | refine Keeps.drew ?_ | refine Keeps.alloc ?_ _))) (by omega) ?_; intro qv Wc hqr hkc hqg; obtain ⟨gp, gc, rfl, hqi⟩ := hqr.ints (by omega); have hq1 : ∀ g, (Value.slice gp p.length gc).ownBlock = some g → wr.heap.size ≤ g := fun g hg => Nat.le_trans (Keeps.size (S := fun _ => False) (by repeat' (first | exact hk | refine Keeps.drew ?_ | refine Keeps.alloc ?_ _))) (hqg g hg); (try (have hBe := hkc.heap (show ((wr.alloc (.cells #[vint j] 3)).drew).heap[wr.heap.size]? = _ from heap_alloc_new wr _))); have hk := Keeps.trans (w := wr) (by repeat' (first | exact hk | refine Keeps.drew ?_ | refine Keeps.alloc ?_ _)) hkc))
              | (((first | refine step_longer (by rfl) _ _ _ (by rfl) i0 _ Try.underlying32 hi0 hz0 hz1 hz2 rfl (.slice gp p.length gc) p (by omega) (by rfl) hqr (j : Int) wr.heap.size (by rfl) hBe ?_ | refine step_longer (by rfl) _ _ _ (by rfl) i0 _ Try.underlying32 hi0 hz0 hz1 hz2 rfl (.slice gp p.length gc) p (by omega) (by rfl) (hqr.keeps ((Keeps.refl (fun _ => False) _).alloc _) (fun g hg => ⟨hqr.lt hg, fun h => h⟩)) (j : Int) Wc.heap.size (by rfl) (heap_alloc_new Wc _) ?_); intro g2 cap2 w3 hrow3 hg3 hcase; have hk : Keeps (fun _ => False) wr w3 := hcase.elim (fun hc => Keeps.trans' (by repeat' (first | exact hk | refine Keeps.drew ?_ | refine Keeps.alloc ?_ _)) hc.2 (fun b hb hl => by have := hq1 b (by rw [hc.1, hb]; rfl); omega)) (fun hc => Keeps.trans (by repeat' (first | exact hk | refine Keeps.drew ?_ | refine Keeps.alloc ?_ _)) hc.2))))
          all_goals
            have HL4 := Lib.hid hL4
            have HK4 := Lib.hid hk4
            have HG4 := Lib.hid hg4
            have HKW := Lib.hid hk
            clear hL4 hk4 hk4' hg4 hk
            go_wp2_with fail
            go_roundg (gk - 1)
            case measure => have := HJ.out; omega
            case rel =>
              refine ⟨j + 1, by have := HJ.out; omega, by go_num, _, lp4, ll4, lc4, _, _, rfl, HL4.out, ?_, HKR.out.trans' HK4.out (fun b hb hl => ?_), fun g' hg' => ?_⟩
              · rw [← HLE.out, HD.out, preK_cons, Fo.drop_step HD.out, List.append_assoc]
              · rcases HGJ.out b hb with h1 | h1
                · exact h1
                · omega
              · rcases HG4.out g' hg' with h1 | h1
                · exact HGJ.out g' h1
                · have := HKW.out.size; exact .inr (by omega)
        · have hdn : x.c.drop j = .nil := Fo.drop_len_le (by have := HLL.out; omega)
          rw [hdn] at hLe
          simp only [preK, List.append_nil] at hLe
          have HLE' := Lib.hid hLe
          clear hdn hLj hLe hkr hgj
          go_wp2_with fail
          go_ret
          refine ⟨lpj, llj, lcj, xsj, bsj, rfl, by rw [← HLE'.out]; exact HLJ.out, (hK1.mono (fun _ h _ => h.elim)).trans HKR.out, fun g hg => ?_⟩
          rcases HGJ.out g hg with h1 | h1
          · exact .inl h1
          · exact .inr (by omega)

/-- What All answers. -/
def AllRes (x : Nd) (w : World) (e : Ending) (w' : World) : Prop :=
  ∃ lp ll lc xs bs, e = .returned (.slice lp ll lc) ∧ StepsI w.heap.size w' (eachL x) lp ll lc xs bs ∧ Keeps (fun _ => False) w w'
set_option maxHeartbeats 400000 in
theorem All_any (x : Nd) (cp : Option Addr) (cl cc : Nat) (A : Nat → Prop) (w : World) (h : Tv w A x.k x.t x.c cp cl cc) :
    Calls Try.prog 15 #[tv x.k x.n x.t cp cl cc] w (AllRes x w) := by
  obtain ⟨w1, hw1⟩ : ∃ w1, w1 = w.alloc (.cells (four x.k x.n x.t cp cl cc) T) := ⟨_, rfl⟩
  have hK1 : Keeps (fun _ => False) w w1 := by rw [hw1]; exact (Keeps.refl _ w).alloc _
  have hb1 : w1.heap[w.heap.size]? = some (.cells (four x.k x.n x.t cp cl cc) T (0, 0)) := by rw [hw1]; exact heap_alloc_new _ _
  have ht1 := h.top.next hK1
  have hz := rSmall_any x cp cl cc _ w1 ht1
  obtain ⟨b0, b1, b2, b3, _⟩ := box4 hb1
  have HW1 := Lib.hid hw1
  rw [hw1] at b0 b1 b2 b3
  clear hw1
  by_cases hs : x.small
  · have hel : eachL x = pre [] x := by rw [eachL, if_pos hs]
    simp only [hs, decide_true] at hz
    have hsn : x.c.nodes < 1024 := by have := hs.1; simp only [Nd.nodes] at this; omega
    have HE := Lib.hid hel
    clear hel hs
    go_enter Try.func15, Try.ntmps15
    go_wp2_with fail
    rw [← HW1.out]
    refine hz.mono ?_
    clear hz b0 b1 b2 b3
    rintro e W ⟨rfl, hk⟩
    have hb := hk.heap hb1
    obtain ⟨b0, b1, b2, b3, _⟩ := box4 hb
    have hks := (hK1.trans hk).size
    have ha := all_any 1024 (by omega) x [] (.slice none 0 0) cp cl cc w.heap.size [] none 0 0 [] [] W hsn (by simp) (by simp; omega) hks (ht1.next hk) ⟨World.ownsRow_nil _ _ _ _, fun _ => rfl⟩ (StepsI.start _ _)
    clear hb
    go_wp2_with fail
    refine ha.mono ?_
    clear ha b0 b1 b2 b3
    rintro e W2 ⟨lp, ll, lc, xs, bs, rfl, hL, hk2, _⟩
    have HL := Lib.hid hL
    clear hL
    go_wp2_with fail
    go_ret
    exact ⟨lp, ll, lc, xs, bs, rfl, by rw [HE.out]; simpa using HL.out, (hK1.trans hk).trans' hk2 (fun b hb hl => by simp [Value.ownBlock] at hb)⟩
  · have hel : eachL x = [] := by rw [eachL, if_neg hs]
    simp only [hs, decide_false] at hz
    have HE := Lib.hid hel
    clear hel hs
    go_enter Try.func15, Try.ntmps15
    go_wp2_with fail
    rw [← HW1.out]
    refine hz.mono ?_
    clear hz b0 b1 b2 b3
    rintro e W ⟨rfl, hk⟩
    go_wp2_with fail
    go_ret
    exact ⟨none, 0, 0, [], [], rfl, by rw [HE.out]; exact StepsI.start _ _, hK1.trans hk⟩
end Go.Proofs.Ytnphhibfiklfjaa
