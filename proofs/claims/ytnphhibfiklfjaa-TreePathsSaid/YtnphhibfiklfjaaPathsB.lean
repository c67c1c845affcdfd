/-
  espalierlaw4.TreePaths: its walk where one of the two is too great.
-/
import Derived.Test.YtnphhibfiklfjaaPaths
set_option linter.unusedVariables false
set_option linter.unusedSimpArgs false
namespace Go.Proofs.Ytnphhibfiklfjaa
open Go.RowKit
attribute [local go_sem] Oper.semAt_some

/-- What the rounds keep: none is done whole; the first returns. -/
def QJ (It : Nat → Prop) (W6 : World) (j : Nat) (B : Nat → Prop) (W : World) : Prop := j = 0 ∧ (∀ b, b < W6.heap.size → ¬ It b → B b) ∧ Keeps It W6 W
def QJx (It : Nat → Prop) (W6 : World) (R : Nat) (c : Code) (B : Nat → Prop) (W : World) : Prop := c = .ret ∧ (∀ b, b < W6.heap.size → ¬ It b → B b) ∧ Keeps (fun b => It b ∨ b = R) W6 W ∧ W.heap[R]? = some (.cells #[.bool true] 4 (0, 0))
theorem QJ.stab {It : Nat → Prop} {W6 : World} (j : Nat) : Stab (QJ It W6 j) := by
  rintro B W W' ⟨h1, h2, h3⟩ hk
  exact ⟨h1, h2, h3.trans' hk (fun b hb hl => Classical.byContradiction fun hi => hb (h2 b hl hi))⟩
theorem QJx.stab {It : Nat → Prop} {W6 : World} {R : Nat} (hR : R < W6.heap.size) (hRI : ¬ It R) (c : Code) : Stab (QJx It W6 R c) := by
  rintro B W W' ⟨h1, h2, h3, h4⟩ hk
  exact ⟨h1, h2, h3.trans' hk (fun b hb hl => .inl (Classical.byContradiction fun hi => hb (h2 b hl hi))), (hk.block _ (heap_lt h4) (fun h => h (h2 _ hR hRI))).trans h4⟩

set_option maxRecDepth 100000 in
set_option maxHeartbeats 6400000 in
theorem treePaths_big (x u : Nd) (pick : Int) (cp up : Option Addr) (cl cc ul uc : Nat) (A A' : Nat → Prop) (w : World) (h : Tv w A x.k x.t x.c cp cl cc) (h' : Tv w A' u.k u.t u.c up ul uc) (hs : ¬ (x.small ∧ u.small)) :
    Calls Try.prog 3 #[tv x.k x.n x.t cp cl cc, tv u.k u.n u.t up ul uc, .int .i64 pick] w fun e w' => e = .returned (.bool true) ∧ Keeps (fun _ => False) w w' := by
  obtain ⟨⟨xn, xd, xb⟩, hx⟩ : ∃ r, sizeR x.k x.t x.c = r := ⟨_, rfl⟩
  obtain ⟨⟨un, ud, ub⟩, hu⟩ : ∃ r, sizeR u.k u.t u.c = r := ⟨_, rfl⟩
  have hz : ∀ W, TB w W x u cp up cl cc ul uc w.heap.size → Calls Try.prog 9 #[tv x.k x.n x.t cp cl cc] W fun e w' => e = .returned (.tuple #[.int .i64 xn, .int .i64 xd, .int .i64 xb]) ∧ Keeps (fun _ => False) W w' := fun W hW => by
    have := Size_any x.k x.n x.t x.c cp cl cc _ W hW.tx
    rw [hx] at this
    exact this
  have hzu : ∀ W, TB w W x u cp up cl cc ul uc w.heap.size → Calls Try.prog 9 #[tv u.k u.n u.t up ul uc] W fun e w' => e = .returned (.tuple #[.int .i64 un, .int .i64 ud, .int .i64 ub]) ∧ Keeps (fun _ => False) W w' := fun W hW => by
    have := Size_any u.k u.n u.t u.c up ul uc _ W hW.tu
    rw [hu] at this
    exact this
  have hx1 : (x.small → xn ≤ 1024) ∧ (¬ x.small → xn = 1025) := by
    rw [sizeR_eq] at hx
    split at hx
    · rename_i h0
      have := h0.1
      simp only [Prod.mk.injEq] at hx
      exact ⟨fun _ => by omega, fun hn => absurd h0 hn⟩
    · rename_i h0
      simp only [Prod.mk.injEq] at hx
      exact ⟨fun hn => absurd hn h0, fun _ => by omega⟩
  have hu1 : ¬ u.small → un = 1025 := by
    rw [sizeR_eq] at hu
    intro h0
    rw [if_neg h0] at hu
    simp only [Prod.mk.injEq] at hu
    omega
  have hor : 1024 < xn ∨ (xn ≤ 1024 ∧ 1024 < un) := by
    by_cases h1 : x.small
    · have := hx1.1 h1
      have := hu1 (fun h2 => hs ⟨h1, h2⟩)
      omega
    · have := hx1.2 h1
      omega
  have hG := TB.start (x := x) (u := u) h h'
  have HZ := Lib.hid hz
  have HZU := Lib.hid hzu
  have HX1 := Lib.hid hx1
  clear hz hzu hs h h' hx hu hu1 hx1
  refine calls_marks Try.func3 rfl ?_
  simp only [Try.ntmps3, List.size_toArray, List.length_cons, List.length_nil, Nat.reduceAdd, Nat.reduceSub, Array.replicate_succ, Array.replicate_zero, List.push_toArray, List.append_toArray, List.nil_append, List.cons_append]
  go_wp2_with fail
  refine (begun_any _).mono ?_
  rintro e W1 ⟨rfl, hk⟩
  have hG := hG.next hk
  clear hk
  obtain ⟨⟨e0', e1, e2, e3⟩, _⟩ := hG.cells
  go_wp2_with fail
  refine (HZ.out _ hG).mono ?_
  rintro e W2 ⟨rfl, hk⟩
  have hG := hG.next hk
  clear hk e0' e1 e2 e3
  obtain ⟨Nb, hNb⟩ : ∃ Nb, Nb = W2.heap.size := ⟨_, rfl⟩
  obtain ⟨W3, hW3⟩ : ∃ W3, W3 = W2.alloc (.cells #[.int .i64 xn] 3) := ⟨_, rfl⟩
  have hN : W3.heap[Nb]? = some (.cells #[.int .i64 xn] 3 (0, 0)) := by rw [hW3, hNb]; exact heap_alloc_new _ _
  have hNB : w.heap.size + 1 + 1 < Nb := by rw [hNb]; exact heap_lt hG.res
  have hG := hG.next (show Keeps (fun _ => False) W2 W3 by rw [hW3]; exact (Keeps.refl _ W2).alloc _)
  obtain ⟨_, ⟨e0', e1, e2, e3⟩, _⟩ := hG.cells
  have HW3 := Lib.hid hW3
  have HNb := Lib.hid hNb
  rw [hW3] at e0' e1 e2 e3
  clear hW3 hNb
  go_wp2_with fail
  rw [← HW3.out, ← HNb.out]
  clear HW3 HNb
  refine (HZU.out _ hG).mono ?_
  rintro e W4 ⟨rfl, hk⟩
  have hG := hG.next hk
  have hN := hk.heap hN
  clear hk e0' e1 e2 e3
  have n0 : W4.cell? ⟨Nb, 0, none⟩ = some (.int .i64 xn) := by simp [World.cell?, hN]
  obtain ⟨⟨e0', e1, e2, e3⟩, _⟩ := hG.cells
  rcases hor with h1 | ⟨h1, h2⟩
  all_goals
    go_wp2_with fail
    clear e0' e1 e2 e3 n0
    refine (Each_any x cp cl cc _ W4 hG.tx).mono ?_
    rintro e W6 ⟨gf, lb, It, rfl, heg, hIt, hk, hit⟩
    have hG := hG.next hk
    have hN := hk.heap hN
    have hs4 := hk.size
    have hN4 := heap_lt ‹W4.heap[Nb]? = _›
    have hItl : ∀ b, It b → b < W6.heap.size := fun b hb => (hIt b hb).2
    have HE := Lib.hid heg
    have HI := Lib.hid hit
    clear heg hit hk
    go_wp2_with fail
    have hRI : ¬ It (w.heap.size + 1 + 1) := fun hb => by have := (hIt _ hb).1; omega
    have hR6 := heap_lt hG.res
    refine (wpIn_wide (n := 1 + 2)).1 (range_law 1 (gf := gf) (lb := lb) (by rfl) HE.out HI.out ((Keeps.refl _ W6)) hItl (fun j vs Y W h => by obtain ⟨p, x, pv, cp, cl, cc, bs, _, rfl, _⟩ := h; rfl)
      (QJ It W6) (QJx It W6 (w.heap.size + 1 + 1)) QJ.stab (QJx.stab hR6 hRI) (fun b => b < W6.heap.size ∧ ¬ It b) (fun b hb => hb)
      ⟨rfl, fun b h1 h2 => ⟨h1, h2⟩, Keeps.refl _ _⟩ ?round ?done ?stop)
    case round =>
      rintro j B2 Y vs W hj hBl ⟨rfl, hJ1, hJ2⟩ ⟨p, y, pv, cp', cl', cc', bs, hL, rfl, hrow, hown, hsz, hYe⟩ hY hBD hlt
      have hxs : x.small := Classical.byContradiction fun hn => by rw [eachL, if_neg hn] at hj; simp at hj
      have hx3 := HX1.out.1 hxs
      first
        | exact absurd hx3 (by omega)
        | (gi_wp2
           refine ⟨Keeps.refl _ _, fun W₂ hk2 => ?_⟩
           have hW : Keeps It W6 W₂ := hJ2.trans' hk2 (fun b hb hl => by omega)
           have hs2 := hk2.size
           have hn2 : W₂.heap[Nb]? = some (.cells #[.int .i64 xn] 3 (0, 0)) := (hW.block _ (heap_lt hN) (fun hb => by have := (hIt _ hb).1; omega)).trans hN
           have hr2 : W₂.heap[w.heap.size + 1 + 1]? = some (.cells #[.bool false] 4 (0, 0)) := (hW.block _ (heap_lt hG.res) hRI).trans hG.res
           have n0 : W₂.cell? ⟨Nb, 0, none⟩ = some (.int .i64 xn) := by simp [World.cell?, hn2]
           have r0 : W₂.cell? ⟨w.heap.size + 1 + 1, 0, none⟩ = some (.bool false) := by simp [World.cell?, hr2]
           have r1 : W₂.frozen? ⟨w.heap.size + 1 + 1, 0, none⟩ = false := by simp [World.frozen?, hr2]
           have hRB : B2 (w.heap.size + 1 + 1) := hJ1 _ hR6 hRI
           have hfin : ∃ B', (∀ b, B' b → (B2 b ∨ Y b ∨ W.heap.size ≤ b) ∧ b < (W₂.setCell ⟨w.heap.size + 1 + 1, 0, none⟩ (.bool true)).heap.size) ∧ Keeps (fun b => B2 b ∨ Y b) W₂ (W₂.setCell ⟨w.heap.size + 1 + 1, 0, none⟩ (.bool true)) ∧ QJx It W6 (w.heap.size + 1 + 1) .ret B' (W₂.setCell ⟨w.heap.size + 1 + 1, 0, none⟩ (.bool true)) :=
             ⟨B2, fun b hb => ⟨.inl hb, by have := hBl b hb; simp [World.setCell]; omega⟩, (Keeps.refl (fun b => B2 b ∨ Y b) W₂).setCell (p := ⟨w.heap.size + 1 + 1, 0, none⟩) (fun _ => .inl hRB) _, rfl, hJ1,
               (hW.mono (S' := fun b => It b ∨ b = w.heap.size + 1 + 1) fun b hb _ => .inl hb).setCell (p := ⟨w.heap.size + 1 + 1, 0, none⟩) (fun _ => .inr rfl) _, by rw [heap_set hr2]; rfl⟩
           have HF := Lib.hid hfin
           clear hfin hn2 hr2 hW hJ1 hJ2 hRB hk2 hBl hL hrow hown hsz hY hBD
           gi_wp2
           exact HF.out)
    case done =>
      rintro B' W ⟨h0, hJ1, hJ2⟩ hD hkI hBD
      have hkW : Keeps (fun _ => False) W6 W := Keeps.both (I := It) (hJ2.mono fun b hb _ => .inl hb) hkI
      have hG := hG.next hkW
      have hs6 := hkW.size
      have hne : W6.heap.size ≠ w.heap.size + 1 + 1 := by omega
      obtain ⟨_, _, r0, r1⟩ := hG.cells
      clear h0 hJ1 hJ2 hkI hkW HE HI hIt hItl
      go_wp2_with fail
      have hres : ((W.setCell ⟨w.heap.size + 1 + 1, 0, none⟩ (.bool true)).putObj W6.heap.size (.deferred none)).cell? ⟨w.heap.size + 1 + 1, 0, none⟩ = some (.bool true) := by
        simp only [World.cell?, World.putObj_heap_other (Ne.symm hne), heap_set hG.res]; rfl
      refine ret_mark (v := .bool true) ((Below.heap_setCell _ _ _ _ hne).trans hD) (by simp [results, Try.results3, go_sem, hres]) ⟨rfl, ?_⟩
      exact (hG.keeps.trans' ((Keeps.refl (fun b => b = w.heap.size + 1 + 1) W).setCell (p := ⟨w.heap.size + 1 + 1, 0, none⟩) (fun _ => rfl) _) (fun b hb hl => by omega)).trans' (Keeps.putObj _ _ _) (fun b hb hl => by omega)
    case stop =>
      rintro c B' W ⟨rfl, hJ1, hJ2, hJ3⟩ hD hkI hBD
      have hkW : Keeps (fun b => b = w.heap.size + 1 + 1) W6 W := Keeps.both hJ2 hkI
      have hne : W6.heap.size ≠ w.heap.size + 1 + 1 := by omega
      have hres : (W.putObj W6.heap.size (.deferred none)).cell? ⟨w.heap.size + 1 + 1, 0, none⟩ = some (.bool true) := by
        simp only [World.cell?, World.putObj_heap_other (Ne.symm hne), hJ3]; rfl
      refine wpIn_ret ?_
      refine ret_mark (v := .bool true) hD (by simp [results, Try.results3, go_sem, hres]) ⟨rfl, ?_⟩
      exact (hG.keeps.trans' hkW (fun b hb hl => by omega)).trans' (Keeps.putObj _ _ _) (fun b hb hl => by omega)
end Go.Proofs.Ytnphhibfiklfjaa
