/-
  espalierlaw24.spoil: its walk: what it writes over are the lists of the tree's own memory.
-/
import Derived.Test.YtnphhibfiklfjaaPkD

import Derived.Test.YtnphhibfiklfjaaPut

import Derived.BigRegion

set_option linter.unusedVariables false

set_option linter.unusedSimpArgs false

namespace Go.Proofs.Ytnphhibfiklfjaa

open Go.RowKit

abbrev kSpoilt : ByteArray := ⟨#[115, 112, 111, 105, 108, 116, 46, 107, 105, 100]⟩
abbrev kGrown : ByteArray := ⟨#[103, 114, 111, 119, 110, 46, 107, 105, 100]⟩
theorem ownsRow_setAny {W : World} {e s n : Nat} {v : Value} {xs : List Value} (h : W.ownsRow 0 e s v n xs) (b i : Nat) (u : Value) : ∃ xs', (W.setCell ⟨b, i, none⟩ u).ownsRow 0 e s v n xs' := by
  rcases h.2 with ⟨h1, h2⟩ | ⟨g, cap, cur, rfl, hg, hh, h1, h2, h3, h4⟩
  · exact ⟨xs, h.1, .inl ⟨h1, h2⟩⟩
  · by_cases hb : g = b
    · subst hb
      refine ⟨(cur.setIfInBounds i u).toList.take (n * s), ?_, .inr ⟨g, cap, _, rfl, hg, heap_set hh _ _, h1, h2, by simpa using h3, rfl⟩⟩
      rw [List.length_take]
      have : n * s ≤ cap * s := Nat.mul_le_mul_right _ h1
      simp only [Array.length_toList, Array.size_setIfInBounds]
      omega
    · refine ⟨xs, h.1, .inr ⟨g, cap, cur, rfl, hg, ?_, h1, h2, h3, h4⟩⟩
      rw [← hh]
      exact ((Keeps.refl (fun x => x = b) W).setCell (p := ⟨b, i, none⟩) (fun _ => rfl) _).block g (heap_lt hh) hb
theorem ownsRow_anyCell {W : World} {e s n g cap : Nat} {xs : List Value} (h : W.ownsRow 0 e s (.slice (some ⟨g, 0, none⟩) n cap) n xs) : n ≤ cap ∧ (∀ i, i < n * s → ∃ v, W.cell? ⟨g, i, none⟩ = some v) ∧ ∀ i, W.frozen? ⟨g, i, none⟩ = false := by
  rcases h.2 with ⟨h1, h2⟩ | ⟨g', cap', cur, h0, hg, hh, h1, h2, h3, h4⟩
  · simp at h1
  · simp only [Value.slice.injEq, Option.some.injEq, Addr.mk.injEq, and_true, true_and] at h0
    obtain ⟨rfl, rfl⟩ := h0
    refine ⟨h1, fun i hi => ?_, fun i => by simp [World.frozen?, hh]⟩
    have hm : n * s ≤ cap * s := Nat.mul_le_mul_right _ h1
    have hi2 : i < cur.size := by omega
    exact ⟨cur[i], by simp [World.cell?, hh, hi2]⟩
theorem ownsRow_caps {W : World} {e s n : Nat} {cp : Option Addr} {cl cc : Nat} {xs : List Value} (h : W.ownsRow 0 e s (.slice cp cl cc) n xs) : cl = n ∧ cl ≤ cc ∧ cc ≤ 9223372036854775807 ∧ (0 < cl → ∃ g, cp = some ⟨g, 0, none⟩) := by
  rcases h.2 with ⟨h1, h2⟩ | ⟨g', cap', cur, h0, hg, hh, h1, h2, h3, h4⟩
  · simp only [Value.slice.injEq] at h1
    obtain ⟨rfl, rfl, rfl⟩ := h1
    exact ⟨h2.symm, Nat.le_refl _, by omega, fun h => by omega⟩
  · simp only [Value.slice.injEq] at h0
    obtain ⟨rfl, rfl, rfl⟩ := h0
    unfold maxLen at h2
    exact ⟨rfl, h1, h2, fun _ => ⟨g', rfl⟩⟩
theorem ownsRow_cellAt {W : World} {e s n g cap : Nat} {xs : List Value} (h : W.ownsRow 0 e s (.slice (some ⟨g, 0, none⟩) n cap) n xs) {i : Nat} {v : Value} (hv : xs[i]? = some v) : W.cell? ⟨g, i, none⟩ = some v := by
  rcases h.2 with ⟨h1, h2⟩ | ⟨g', cap', cur, h0, hg, hh, h1, h2, h3, h4⟩
  · simp at h1
  · simp only [Value.slice.injEq, Option.some.injEq, Addr.mk.injEq, and_true, true_and] at h0
    obtain ⟨rfl, rfl⟩ := h0
    have h7 : cur.toList[i]? = some v := by
      rw [← h4, List.getElem?_take] at hv
      split at hv
      · exact hv
      · simp at hv
    simp only [World.cell?, hh]
    simpa using h7
end Go.Proofs.Ytnphhibfiklfjaa
