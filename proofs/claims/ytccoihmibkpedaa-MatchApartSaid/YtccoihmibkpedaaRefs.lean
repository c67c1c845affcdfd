/-
  espalierref4.Same, Copy, At: their walks.
-/
import Derived.Test.YtccoihmibkpedaaOver

import Derived.Test.YtccoihmibkpedaaPkC

import Derived.StillTailTactics

import Derived.Deep.QuietTactic

import Derived.BigQuiet

import Derived.Deep.LoopGhost

set_option linter.unusedVariables false

set_option linter.unusedSimpArgs false

namespace Go.Proofs.Ytccoihmibkpedaa

open Go.RowKit

noncomputable def sameF (x u : Nd) : Bool := decide x.small && decide u.small && eqB (one x.k x.n x.t x.c) (one u.k u.n u.t u.c)
set_option maxHeartbeats 800000 in
theorem rSame_any (x u : Nd) (cp up : Option Addr) (cl cc ul uc : Nat) (A A' : Nat → Prop) (w : World) (h : Tv w A x.k x.t x.c cp cl cc) (h' : Tv w A' u.k u.t u.c up ul uc) :
    Calls Try.prog 101 #[tv x.k x.n x.t cp cl cc, tv u.k u.n u.t up ul uc] w fun e w' => e = .returned (.bool (sameF x u)) ∧ Keeps (fun _ => False) w w' := by
  obtain ⟨w1, hw1⟩ : ∃ w1, w1 = w.alloc (.cells (four x.k x.n x.t cp cl cc) T) := ⟨_, rfl⟩
  obtain ⟨w2, hw2⟩ : ∃ w2, w2 = w1.alloc (.cells (four u.k u.n u.t up ul uc) T) := ⟨_, rfl⟩
  have hK1 : Keeps (fun _ => False) w w1 := by rw [hw1]; exact (Keeps.refl _ w).alloc _
  have hK2 : Keeps (fun _ => False) w1 w2 := by rw [hw2]; exact (Keeps.refl _ w1).alloc _
  have hs1 : w1.heap.size = w.heap.size + 1 := by rw [hw1]; simp
  have hb1 : w1.heap[w.heap.size]? = some (.cells (four x.k x.n x.t cp cl cc) T (0, 0)) := by rw [hw1]; exact heap_alloc_new _ _
  have hb1 := hK2.heap hb1
  have hb2 : w2.heap[w.heap.size + 1]? = some (.cells (four u.k u.n u.t up ul uc) T (0, 0)) := by rw [hw2, ← hs1]; exact heap_alloc_new _ _
  have hK := hK1.trans hK2
  have hC : Hid (∀ W, Keeps (fun _ => False) w2 W → (W.cell? ⟨w.heap.size, 0, none⟩ = some (.string x.k) ∧ W.cell? ⟨w.heap.size, 1, none⟩ = some (.int .i64 x.n) ∧ W.cell? ⟨w.heap.size, 2, none⟩ = some (.string x.t) ∧ W.cell? ⟨w.heap.size, 3, none⟩ = some (.slice cp cl cc)) ∧
      (W.cell? ⟨w.heap.size + 1, 0, none⟩ = some (.string u.k) ∧ W.cell? ⟨w.heap.size + 1, 1, none⟩ = some (.int .i64 u.n) ∧ W.cell? ⟨w.heap.size + 1, 2, none⟩ = some (.string u.t) ∧ W.cell? ⟨w.heap.size + 1, 3, none⟩ = some (.slice up ul uc))) := Lib.hid fun W hk => by
    obtain ⟨a0, a1, a2, a3, _⟩ := box4 (hk.heap hb1)
    obtain ⟨b0, b1, b2, b3, _⟩ := box4 (hk.heap hb2)
    exact ⟨⟨a0, a1, a2, a3⟩, ⟨b0, b1, b2, b3⟩⟩
  have hS1 : Hid (∀ W, Keeps (fun _ => False) w2 W → Calls Try.prog 97 #[tv x.k x.n x.t cp cl cc] W fun e w' => e = .returned (.bool (decide x.small)) ∧ Keeps (fun _ => False) W w') := Lib.hid fun W hk => rSmall_any x cp cl cc _ W ((h.next hK).next hk)
  have hS2 : Hid (∀ W, Keeps (fun _ => False) w2 W → Calls Try.prog 97 #[tv u.k u.n u.t up ul uc] W fun e w' => e = .returned (.bool (decide u.small)) ∧ Keeps (fun _ => False) W w') := Lib.hid fun W hk => rSmall_any u up ul uc _ W ((h'.next hK).next hk)
  have hE : Hid (∀ W, Keeps (fun _ => False) w2 W → Calls Try.prog 20 #[tv x.k x.n x.t cp cl cc, tv u.k u.n u.t up ul uc] W fun e w' => e = .returned (.bool (eqB (one x.k x.n x.t x.c) (one u.k u.n u.t u.c))) ∧ Keeps (fun _ => False) W w') := Lib.hid fun W hk =>
    Eq_any (x.c.nodes + 1) x.k u.k x.n u.n x.t u.t x.c u.c _ _ cp up cl cc ul uc W (by omega) ((h.next hK).next hk) ((h'.next hK).next hk)
  have hF : Hid (sameF x u = (decide x.small && decide u.small && eqB (one x.k x.n x.t x.c) (one u.k u.n u.t u.c))) := rfl
  obtain ⟨a, ha⟩ : ∃ a, decide x.small = a := ⟨_, rfl⟩
  obtain ⟨b, hb⟩ : ∃ a, decide u.small = a := ⟨_, rfl⟩
  obtain ⟨c, hc⟩ : ∃ a, eqB (one x.k x.n x.t x.c) (one u.k u.n u.t u.c) = a := ⟨_, rfl⟩
  rw [ha] at hS1 hF
  rw [hb] at hS2 hF
  rw [hc] at hE hF
  obtain ⟨⟨a0, a1, a2, a3⟩, _⟩ := hC.out _ (Keeps.refl _ _)
  have HW := Lib.hid hw2
  have HW1 := Lib.hid hw1
  have hk0 : Keeps (fun _ => False) w2 w2 := Keeps.refl _ _
  rw [hw2, hw1] at a0 a1 a2 a3
  clear ha hb hc hw1 hw2 hb1 hb2 h h'
  go_enter Try.func101, Try.ntmps101
  go_wp2_with fail
  rw [← HW1.out, ← HW.out]
  refine (hS1.out _ hk0).mono ?_
  clear a0 a1 a2 a3
  rintro e W ⟨rfl, hk⟩
  cases a with
  | false =>
    go_wp2_with fail
    go_ret
    exact ⟨by rw [hF.out]; rfl, hK.trans hk⟩
  | true =>
    obtain ⟨_, ⟨b0, b1, b2, b3⟩⟩ := hC.out _ hk
    go_wp2_with fail
    refine (hS2.out _ hk).mono ?_
    clear b0 b1 b2 b3
    rintro e W2 ⟨rfl, hk2⟩
    have hk := hk.trans hk2
    cases b with
    | false =>
      go_wp2_with fail
      go_ret
      exact ⟨by rw [hF.out]; rfl, hK.trans hk⟩
    | true =>
      obtain ⟨⟨a0, a1, a2, a3⟩, ⟨b0, b1, b2, b3⟩⟩ := hC.out _ hk
      go_wp2_with fail
      refine (hE.out _ hk).mono ?_
      clear a0 a1 a2 a3 b0 b1 b2 b3
      rintro e W3 ⟨rfl, hk3⟩
      have hk := hk.trans hk3
      go_wp2_with fail
      go_ret
      exact ⟨by rw [hF.out]; simp, hK.trans hk⟩

/-- A tree of its own, stored into the result's box: the function's end. -/
theorem TreeRes.stored {w W : World} {x : Nd} {n : Int} {R : Nat} {cp : Option Addr} {cl cc : Nat} {bs : List Nat} {D : Nat} (hR : w.heap.size ≤ R) (hRD : R < D) (hD : w.heap.size ≤ D) (ho : Own W x.c cp cl cc bs) (hn : News W D bs) (hs : szok x.k x.t) (hk : Keeps (fun _ => False) w W) :
    TreeRes w (x, n) (.returned (.tuple #[tv x.k x.n x.t cp cl cc, .int .i64 n])) ((((W.setCell ⟨R, 0, none⟩ (.string x.k)).setCell ⟨R, 1, none⟩ (.int .i64 x.n)).setCell ⟨R, 2, none⟩ (.string x.t)).setCell ⟨R, 3, none⟩ (.slice cp cl cc)) := by
  have h4 := Keeps.four W R (.string x.k) (.int .i64 x.n) (.string x.t) (.slice cp cl cc)
  exact ⟨cp, cl, cc, bs, rfl, ho.keeps h4 (fun b hb => ⟨hn.hi b hb, fun e => by have := hn.lo b hb; omega⟩), (hn.keeps h4).mono hD, hs, hk.trans' h4 (fun b hb hl => by omega)⟩

/-- A kid by a number. -/
theorem kid_cases (c : Fo) (i : Int) : (c.kid i = none ∧ (i < 0 ∨ (c.len : Int) ≤ i)) ∨ ∃ k n t s r, c.drop i.toNat = .cons k n t s r ∧ c.kid i = some ⟨k, n, t, s⟩ ∧ 0 ≤ i ∧ i < (c.len : Int) := by
  by_cases h0 : i < 0
  · exact .inl ⟨by rw [Fo.kid, if_pos h0], .inl h0⟩
  · by_cases h1 : i.toNat < c.len
    · obtain ⟨k, n, t, s, r, hd⟩ := Fo.drop_lt i.toNat c h1
      exact .inr ⟨k, n, t, s, r, hd, by rw [Fo.kid, if_neg h0]; exact Fo.at?_drop hd, by omega, by omega⟩
    · exact .inl ⟨by rw [Fo.kid, if_neg h0]; exact Fo.at?_none (by omega), .inr (by omega)⟩

end Go.Proofs.Ytccoihmibkpedaa
