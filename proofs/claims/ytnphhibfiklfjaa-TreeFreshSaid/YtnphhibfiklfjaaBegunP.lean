/-
  espalierlaw4.begun: its data.
-/
import Derived.Test.YtnphhibfiklfjaaPkC

import Derived.Test.YtnphhibfiklfjaaPkD

import Derived.Test.YtnphhibfiklfjaaPut

import Derived.Test.YtnphhibfiklfjaaPkB

import Derived.Test.YtnphhibfiklfjaaKinds2

set_option linter.unusedVariables false

set_option linter.unusedSimpArgs false

namespace Go.Proofs.Ytnphhibfiklfjaa

open Go.RowKit

abbrev kab : ByteArray := ⟨#[97, 46, 98]⟩
abbrev kcd : ByteArray := ⟨#[99, 46, 100]⟩
abbrev kef : ByteArray := ⟨#[101, 46, 102]⟩
abbrev kgh : ByteArray := ⟨#[103, 46, 104]⟩
abbrev kxy : ByteArray := ⟨#[120, 46, 121]⟩
abbrev nab : ByteArray := ⟨#[97, 98]⟩
abbrev fgh : Fo := .cons kgh 0 e0 .nil .nil
abbrev fcd : Fo := .cons kcd 0 e0 .nil (.cons kef 0 e0 fgh .nil)
/-- The tree of begun. -/
abbrev ndB : Nd := ⟨kab, 0, e0, fcd⟩
theorem smallB : ndB.small := by decide
theorem sizeB : sizeR kab e0 fcd = (4, 3, 0) := by
  have := sizeR_eq ndB
  rw [if_pos smallB] at this
  exact this
theorem atB1 : atF ndB [1, 0] = (lf kgh, 0) := by simp [atF, smallB, sub, Fo.kid, Fo.at?, found, Option.bind]
theorem atB2 : atF ndB [2] = (zeroNd, 23) := by simp [atF, smallB, sub, Fo.kid, Fo.at?, found, Option.bind]
theorem putB : putF (lf kab) [] (lf kxy) = (lf kxy, 0) := by simp [putF, smallLf, sub, put]
theorem kindsB : (kindsF ndB).length = 4 := by rw [kindsF, if_pos smallB]; decide
theorem mayB : mayF ndB = 0 := by rw [mayF, if_pos smallB]; decide
theorem mayL : mayF (lf nab) = 10 := by rw [mayF, if_pos (smallLf _)]; decide
theorem eachB : eachL ndB = [([], ndB), ([0], lf kcd), ([1], ⟨kef, 0, e0, fgh⟩), ([1, 0], lf kgh)] := by rw [eachL, if_pos smallB]; rfl
theorem szB : szok kab e0 ∧ szok kcd e0 ∧ szok kef e0 ∧ szok kgh e0 ∧ szok kxy e0 ∧ szok nab e0 := by
  refine ⟨?_, ?_, ?_, ?_, ?_, ?_⟩ <;> exact ⟨by decide, by decide⟩
/-- Where it lies. -/
theorem nodeB {W : World} {B : Nat} (h0 : W.heap[B]? = some (.cells (four kgh 0 e0 none 0 0) T (0, 0)))
    (h1 : W.heap[B + 1]? = some (.cells #[.string kcd, .int .i64 0, .string e0, .slice none 0 0, .string kef, .int .i64 0, .string e0, .slice (some ⟨B, 0, none⟩) 1 1] T (0, 0)))
    (h2 : W.heap[B + 1 + 1]? = some (.cells (four kab 0 e0 (some ⟨B + 1, 0, none⟩) 2 2) T (0, 0))) :
    NodeAt W (fun b => b < W.heap.size) (B + 1 + 1) 0 kab 0 e0 fcd (some ⟨B + 1, 0, none⟩) 2 2 := by
  have l0 := heap_lt h0
  have l1 := heap_lt h1
  obtain ⟨s1, s2, s3, s4, _, _⟩ := szB
  refine ⟨s1, by omega, by omega, by simp [World.cell?, h2], by simp [World.cell?, h2], by simp [World.cell?, h2], by simp [World.cell?, h2], ?_⟩
  refine ⟨B + 1, 0, 1, none, 0, 0, rfl, rfl, by omega, l1, l1, s2, by omega, by omega, by simp [World.cell?, h1], by simp [World.cell?, h1], by simp [World.cell?, h1], by simp [World.cell?, h1], rfl, ?_⟩
  refine ⟨B + 1, 4, 0, some ⟨B, 0, none⟩, 1, 1, rfl, rfl, by omega, l1, l1, s3, by omega, by omega, by simp [World.cell?, h1], by simp [World.cell?, h1], by simp [World.cell?, h1], by simp [World.cell?, h1], ?_, rfl⟩
  exact ⟨B, 0, 0, none, 0, 0, rfl, rfl, by omega, l0, l0, s4, by omega, by omega, by simp [World.cell?, h0], by simp [World.cell?, h0], by simp [World.cell?, h0], by simp [World.cell?, h0], rfl, rfl⟩
theorem NodeAt.nextT {w w1 : World} {A : Nat → Prop} {b o k n t c cp cl cc} (h : NodeAt w A b o k n t c cp cl cc) (hk : Keeps (fun _ => False) w w1) : NodeAt w1 (fun b => b < w1.heap.size) b o k n t c cp cl cc :=
  (h.keeps hk (fun _ _ h => h) (World.block_lt_of_cell? w _ h.c0) (fun h => h)).top
/-- What stays, all along. -/
structure BB (w W : World) (B : Nat) : Prop where
  n : NodeAt W (fun b => b < W.heap.size) (B + 1 + 1) 0 kab 0 e0 fcd (some ⟨B + 1, 0, none⟩) 2 2
  res : W.heap[w.heap.size]? = some (.cells #[.bool false] 4 (0, 0))
  keeps : Keeps (fun _ => False) w W
theorem BB.next {w W W' : World} {B : Nat} (h : BB w W B) (hk : Keeps (fun _ => False) W W') : BB w W' B := ⟨h.n.nextT hk, (hk.block _ (heap_lt h.res) (fun h => h)).trans h.res, h.keeps.trans hk⟩
theorem BB.cells {w W : World} {B : Nat} (h : BB w W B) : W.cell? ⟨B + 1 + 1, 0, none⟩ = some (.string kab) ∧ W.cell? ⟨B + 1 + 1, 1, none⟩ = some (.int .i64 0) ∧ W.cell? ⟨B + 1 + 1, 2, none⟩ = some (.string e0) ∧ W.cell? ⟨B + 1 + 1, 3, none⟩ = some (.slice (some ⟨B + 1, 0, none⟩) 2 2) ∧ W.cell? ⟨w.heap.size, 0, none⟩ = some (.bool false) ∧ W.frozen? ⟨w.heap.size, 0, none⟩ = false :=
  ⟨h.n.c0, h.n.c1, h.n.c2, h.n.c3, by simp [World.cell?, h.res], by simp [World.frozen?, h.res]⟩
end Go.Proofs.Ytnphhibfiklfjaa
