/-
  tree.Size, tree.Same: their walks.
-/
import Derived.Test.YtnphhibfiklfjaaSameA
set_option linter.unusedVariables false
set_option linter.unusedSimpArgs false
namespace Go.Proofs.Ytnphhibfiklfjaa
open Go.RowKit

theorem Size_any (k : ByteArray) (n : Int) (t : ByteArray) (c : Fo) (cp : Option Addr) (cl cc : Nat) (A : Nat → Prop) (w : World) (h : Tv w A k t c cp cl cc) :
   Calls Try.prog 9 #[tv k n t cp cl cc] w fun e w' => e = .returned (.tuple #[.int .i64 (sizeR k t c).1, .int .i64 (sizeR k t c).2.1, .int .i64 (sizeR k t c).2.2]) ∧ Keeps (fun _ => False) w w' := by
  have hn := (h.boxed (k := k) (n := n) 24).top
  have hK : Keeps (fun _ => False) w (w.alloc (.cells (four k n t cp cl cc) 24)) := (Keeps.refl _ w).alloc _
  have hw := walk_any _ _ _ _ _ k n t c w.heap.size 0 cp cl cc [] _ (see_nothing _) (by simp) hn trivial rfl
  obtain ⟨⟨q2, bb, l2⟩, hr⟩ : ∃ r, wlk1 k t c 1 ⟨0, 0, 0⟩ = r := ⟨_, rfl⟩
  rw [hr] at hw
  have hs : sizeR k t c = if bb then (q2.nodes, q2.depth, q2.bytes) else (1025, 65, 16385) := by
    unfold sizeR big
    rw [hr]
    cases bb <;> rfl
  rw [hs]
  clear hs hr hn
  go_enter Try.func9, Try.ntmps9
  go_wp2_with fail
  refine hw.mono ?_
  clear hw
  rintro e W ⟨rfl, _, hK2⟩
  cases bb
  all_goals
    go_wp2_with fail
    go_ret3
    exact ⟨rfl, hK.trans hK2⟩

set_option maxHeartbeats 400000 in
theorem Same_any (k k' : ByteArray) (n n' : Int) (t t' : ByteArray) (c c' : Fo) (cp cp' : Option Addr) (cl cc cl' cc' : Nat) (A A' : Nat → Prop) (w : World) (h : Tv w A k t c cp cl cc) (h' : Tv w A' k' t' c' cp' cl' cc') :
   Calls Try.prog 12 #[tv k n t cp cl cc, tv k' n' t' cp' cl' cc'] w fun e w' => e = .returned (.bool (!big k t c && !big k' t' c' && eqB (one k n t c) (one k' n' t' c'))) ∧ Keeps (fun _ => False) w w' := by
  obtain ⟨w1, hw1⟩ : ∃ w1, w1 = w.alloc (.cells (four k n t cp cl cc) 24) := ⟨_, rfl⟩
  obtain ⟨w2, hw2⟩ : ∃ w2, w2 = w1.alloc (.cells (four k' n' t' cp' cl' cc') 24) := ⟨_, rfl⟩
  have hK1 : Keeps (fun _ => False) w w1 := by rw [hw1]; exact (Keeps.refl _ w).alloc _
  have hK2 : Keeps (fun _ => False) w1 w2 := by rw [hw2]; exact (Keeps.refl _ w1).alloc _
  have hs1 : w1.heap.size = w.heap.size + 1 := by rw [hw1]; simp
  have hs2 : w2.heap.size = w.heap.size + 1 + 1 := by rw [hw2]; simp [hs1]
  have hn1 : NodeAt w1 A w.heap.size 0 k n t c cp cl cc := by rw [hw1]; exact h.boxed _
  have hn : NodeAt w2 A w.heap.size 0 k n t c cp cl cc := hn1.keeps hK2 (fun _ _ h => h) (by omega) (fun h => h)
  have hn' : NodeAt w2 A' (w.heap.size + 1) 0 k' n' t' c' cp' cl' cc' := by rw [hw2, ← hs1]; exact (h'.keeps hK1 (fun _ _ h => h)).boxed _
  have hg := great_any k n t c w.heap.size 0 cp cl cc w2 (by omega) hn.top
  have hg' : ∀ W, Keeps (fun _ => False) w2 W → Calls Try.prog 35 #[.pointer (some ⟨w.heap.size + 1, 0, none⟩)] W fun e w' => e = .returned (.bool (big k' t' c')) ∧ Keeps (fun _ => False) W w' := fun W hW =>
    great_any k' n' t' c' (w.heap.size + 1) 0 cp' cl' cc' W (by have := hW.size; omega) (hn'.keeps hW (fun _ _ h => h) (by omega) (fun h => h)).top
  have hsm : ∀ W, Keeps (fun _ => False) w2 W → Calls Try.prog 42 #[.pointer (some ⟨w.heap.size, 0, none⟩), .pointer (some ⟨w.heap.size + 1, 0, none⟩)] W fun e w' => e = .returned (.bool (eqB (one k n t c) (one k' n' t' c'))) ∧ Keeps (fun _ => False) W w' := fun W hW =>
    (same_any (c.nodes + 1) k k' n n' t t' c c' A A' w.heap.size 0 (w.heap.size + 1) 0 cp cp' cl cc cl' cc' W (by omega) (hn.keeps hW (fun _ _ h => h) (by omega) (fun h => h)) (hn'.keeps hW (fun _ _ h => h) (by omega) (fun h => h))).mono fun e w' ⟨h1, m, h2⟩ => ⟨h1, by rw [h2]; exact (Keeps.refl _ W).drewN m⟩
  have HW := Lib.hid hw2
  have HW1 := Lib.hid hw1
  have hK := hK1.trans hK2
  clear hw2 hw1 hn hn' hn1
  obtain ⟨g, hgg⟩ : ∃ g, big k t c = g := ⟨_, rfl⟩
  obtain ⟨g', hgg'⟩ : ∃ g, big k' t' c' = g := ⟨_, rfl⟩
  obtain ⟨s, hss⟩ : ∃ g, eqB (one k n t c) (one k' n' t' c') = g := ⟨_, rfl⟩
  rw [hgg] at hg ⊢
  rw [hss] at hsm ⊢
  simp only [hgg'] at hg' ⊢
  clear hgg hgg' hss
  go_enter Try.func12, Try.ntmps12
  go_wp2_with fail
  rw [← HW1.out, ← HW.out]
  refine hg.mono ?_
  clear hg
  rintro e W1 ⟨rfl, hk1⟩
  cases g with
  | true =>
    go_wp2_with fail
    go_ret
    exact ⟨rfl, hK.trans hk1⟩
  | false =>
    go_wp2_with fail
    refine (hg' _ hk1).mono ?_
    clear hg'
    rintro e W2 ⟨rfl, hk2⟩
    cases g' with
    | true =>
      go_wp2_with fail
      go_ret
      exact ⟨rfl, (hK.trans hk1).trans hk2⟩
    | false =>
      go_wp2_with fail
      refine (hsm _ (hk1.trans hk2)).mono ?_
      clear hsm
      rintro e W3 ⟨rfl, hk3⟩
      go_wp2_with fail
      go_ret
      exact ⟨by simp, ((hK.trans hk1).trans hk2).trans hk3⟩
end Go.Proofs.Ytnphhibfiklfjaa
