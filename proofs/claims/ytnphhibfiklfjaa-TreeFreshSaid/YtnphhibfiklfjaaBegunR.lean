/-
  espalierlaw4.begun: a round of its range over Each.
-/
import Derived.Test.YtnphhibfiklfjaaBegunP

import Derived.Test.YtnphhibfiklfjaaPkD

set_option linter.unusedVariables false

set_option linter.unusedSimpArgs false

namespace Go.Proofs.Ytnphhibfiklfjaa

open Go.RowKit

/-- What the rounds keep: M: the counter's block. -/
def BJ (It : Nat → Prop) (W13 : World) (M : Nat) (j : Nat) (B : Nat → Prop) (W : World) : Prop :=
  (∀ b, b < W13.heap.size → ¬ It b → B b) ∧ Keeps (fun b => It b ∨ b = M) W13 W ∧ W.heap[M]? = some (.cells #[.int .i64 (j : Int)] 3 (0, 0))
theorem BJ.stab {It : Nat → Prop} {W13 : World} {M : Nat} (hM : M < W13.heap.size) (hMI : ¬ It M) (j : Nat) : Stab (BJ It W13 M j) := by
  rintro B W W' ⟨h1, h2, h3⟩ hk
  have hMB : B M := h1 _ hM hMI
  exact ⟨h1, h2.trans' hk (fun b hb hl => .inl (Classical.byContradiction fun hi => hb (h1 b hl hi))), (hk.block _ (heap_lt h3) (fun h => h hMB)).trans h3⟩
theorem BJ.next {It : Nat → Prop} {W13 : World} {M l : Nat} (hM : M < W13.heap.size) (hMI : ¬ It M) (hl : W13.heap.size ≤ l) {j : Nat} {B Y : Nat → Prop} {W W1 W2 Wn : World} (h : BJ It W13 M j B W) (hB : ∀ b, B b → b < W.heap.size) (hk1 : Keeps (fun _ => False) W W1) (hk2 : Keeps (fun b => b = l) W1 W2) (hkn : Keeps (fun _ => False) W2 Wn) :
    ∃ B', (∀ b, B' b → (B b ∨ Y b ∨ W.heap.size ≤ b) ∧ b < (Wn.setCell ⟨M, 0, none⟩ (.int .i64 ((j + 1 : Nat) : Int))).heap.size) ∧ Keeps (fun b => B b ∨ Y b) W2 (Wn.setCell ⟨M, 0, none⟩ (.int .i64 ((j + 1 : Nat) : Int))) ∧ BJ It W13 M (j + 1) B' (Wn.setCell ⟨M, 0, none⟩ (.int .i64 ((j + 1 : Nat) : Int))) := by
  obtain ⟨h1, h2, h3⟩ := h
  have hMB : B M := h1 _ hM hMI
  have hsz : (Wn.setCell ⟨M, 0, none⟩ (.int .i64 ((j + 1 : Nat) : Int))).heap.size = Wn.heap.size := by simp [World.setCell]
  have s1 := hk1.size
  have s2 := hk2.size
  have s3 := hkn.size
  have hk : Keeps (fun b => b = l ∨ b = M) W (Wn.setCell ⟨M, 0, none⟩ (.int .i64 ((j + 1 : Nat) : Int))) :=
    (((hk1.mono (S' := fun b => b = l ∨ b = M) fun _ h _ => h.elim).trans' hk2 (fun b hb _ => .inl hb)).trans' hkn (fun b hb _ => hb.elim)).setCell (p := ⟨M, 0, none⟩) (fun _ => .inr rfl) _
  have hMW := heap_lt h3
  have hMn : Wn.heap[M]? = some (.cells #[.int .i64 (j : Int)] 3 (0, 0)) := (hkn.block _ (by omega) (fun h => h)).trans ((hk2.block _ (by omega) (by omega)).trans ((hk1.block _ hMW (fun h => h)).trans h3))
  refine ⟨B, fun b hb => ⟨.inl hb, by have := hB b hb; rw [hsz]; omega⟩, (hkn.mono fun _ h _ => h.elim).setCell (p := ⟨M, 0, none⟩) (fun _ => .inl hMB) _, h1, h2.trans' hk (fun b hb hbl => hb.elim (fun h => by omega) .inr), ?_⟩
  rw [heap_set hMn]; rfl
end Go.Proofs.Ytnphhibfiklfjaa
