/-
  espalierlaw4.begun: a round of its range over Each.
-/
import Derived.Test.YtnphhibfiklfjaaBegunP
set_option linter.unusedVariables false
set_option linter.unusedSimpArgs false
namespace Go.Proofs.Ytnphhibfiklfjaa
open Go.RowKit

/-- What the rounds keep: M: the counter's block. -/
def BJ (It : Nat → Prop) (W13 : World) (M : Nat) (j : Nat) (B : Nat → Prop) (W : World) : Prop :=
  (∀ b, b < W13.heap.size → ¬ It b → B b) ∧ Keeps (fun b => It b ∨ b = M) W13 W ∧ W.heap[M]? = some (.cells #[.int .i64 (j : Int)] 3 (0, 0))
theorem BJ.stab {It : Nat → Prop} {W13 : World} {M : Nat} (hM : M < W13.heap.size) (hMI : ¬ It M) (j : Nat) : Stab (BJ It W13 M j) := by
  rintro B W W' ⟨h1, h2, h3⟩ hk
  have hMB : B M := h1 _ hM hMI
  exact ⟨h1, h2.trans' hk (fun b hb hl => .inl (Classical.byContradiction fun hi => hb (h1 b hl hi))), (hk.block _ (heap_lt h3) (fun h => h hMB)).trans h3⟩
theorem BJ.next {It : Nat → Prop} {W13 : World} {M l : Nat} (hM : M < W13.heap.size) (hMI : ¬ It M) (hl : W13.heap.size ≤ l) {j : Nat} {B Y : Nat → Prop} {W W1 W2 Wn : World} (h : BJ It W13 M j B W) (hB : ∀ b, B b → b < W.heap.size) (hk1 : Keeps (fun _ => False) W W1) (hk2 : Keeps (fun b => b = l) W1 W2) (hkn : Keeps (fun _ => False) W2 Wn) :
    ∃ B', (∀ b, B' b → (B b ∨ Y b ∨ W.heap.size ≤ b) ∧ b < (Wn.setCell ⟨M, 0, none⟩ (.int .i64 ((j + 1 : Nat) : Int))).heap.size) ∧ Keeps (fun b => B b ∨ Y b) W2 (Wn.setCell ⟨M, 0, none⟩ (.int .i64 ((j + 1 : Nat) : Int))) ∧ BJ It W13 M (j + 1) B' (Wn.setCell ⟨M, 0, none⟩ (.int .i64 ((j + 1 : Nat) : Int))) := by
  obtain ⟨h1, h2, h3⟩ := h
  have hMB : B M := h1 _ hM hMI
  have hsz : (Wn.setCell ⟨M, 0, none⟩ (.int .i64 ((j + 1 : Nat) : Int))).heap.size = Wn.heap.size := by simp [World.setCell]
  have s1 := hk1.size
  have s2 := hk2.size
  have s3 := hkn.size
  have hk : Keeps (fun b => b = l ∨ b = M) W (Wn.setCell ⟨M, 0, none⟩ (.int .i64 ((j + 1 : Nat) : Int))) :=
    (((hk1.mono (S' := fun b => b = l ∨ b = M) fun _ h _ => h.elim).trans' hk2 (fun b hb _ => .inl hb)).trans' hkn (fun b hb _ => hb.elim)).setCell (p := ⟨M, 0, none⟩) (fun _ => .inr rfl) _
  have hMW := heap_lt h3
  have hMn : Wn.heap[M]? = some (.cells #[.int .i64 (j : Int)] 3 (0, 0)) := (hkn.block _ (by omega) (fun h => h)).trans ((hk2.block _ (by omega) (by omega)).trans ((hk1.block _ hMW (fun h => h)).trans h3))
  refine ⟨B, fun b hb => ⟨.inl hb, by have := hB b hb; rw [hsz]; omega⟩, (hkn.mono fun _ h _ => h.elim).setCell (p := ⟨M, 0, none⟩) (fun _ => .inl hMB) _, h1, h2.trans' hk (fun b hb hbl => hb.elim (fun h => by omega) .inr), ?_⟩
  rw [heap_set hMn]; rfl
theorem Row.ints {w : World} {v : Value} {xs : List Int} (h : Row w v xs) (hx : xs.length ≤ 9223372036854775807) : ∃ p c, v = .slice p xs.length c ∧ Ints w (fun b => v.ownBlock = some b) xs p xs.length := by
  rcases h.form with ⟨rfl, rfl⟩ | ⟨g, cap, cur, rfl, hpos, hh, h1, h2, h3, h4⟩
  · exact ⟨none, 0, rfl, rfl, by simp, fun h => by simp at h⟩
  · refine ⟨_, _, rfl, rfl, hx, fun _ => ⟨g, 0, rfl, rfl, heap_lt hh, fun i hi => ?_⟩⟩
    have := h.cellsOf i (vint (xs.getD i 0)) (by simp [List.getD_eq_getElem?_getD, List.getElem?_eq_getElem hi])
    rw [add0] at this
    rw [show (0 : Nat) + i = i by omega]
    exact this
end Go.Proofs.Ytnphhibfiklfjaa
