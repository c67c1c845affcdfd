/-
  espalierlaw4.EqPath, leaf: their walks.
-/
import Derived.Test.YtnphhibfiklfjaaCopy
set_option linter.unusedVariables false
set_option linter.unusedSimpArgs false
namespace Go.Proofs.Ytnphhibfiklfjaa
open Go.RowKit

set_option maxRecDepth 100000 in
set_option maxHeartbeats 800000 in
theorem EqPath_any (xs ys : List Int) (p q : Option Addr) (n m c c' : Nat) (A A' : Nat → Prop) (w : World) (h : Ints w A xs p n) (h' : Ints w A' ys q m) :
    Calls Try.prog 16 #[.slice p n c, .slice q m c'] w fun e w' => e = .returned (.bool (decide (xs = ys))) ∧ Keeps (fun _ => False) w w' := by
  have hl := h.len
  have hl' := h'.len
  by_cases hn : n = m
  · subst hn
    have hle := h.le
    go_enter Try.func16, Try.ntmps16
    go_wp2_with fail
    go_loopg [5] n (fun m i W => ∃ j : Nat, j + m = n ∧ i = .int .i64 j ∧ (xs = ys ↔ xs.drop j = ys.drop j) ∧ Keeps (fun _ => False) w W)
    case atStart => exact ⟨0, by omega, rfl, Iff.rfl, Keeps.refl _ _⟩
    case round =>
      obtain ⟨j, hjm, rfl, hiff, hkr⟩ := hrel
      have hr := h.keeps hkr (fun _ _ h => h)
      have hr' := h'.keeps hkr (fun _ _ h => h)
      have HI := Lib.hid hiff
      have HJ := Lib.hid hjm
      have HK := Lib.hid hkr
      by_cases hlt : j < n
      · obtain ⟨x, r, hd, hd1, b, o, rfl, _, hb⟩ := hr.dropLt hlt
        obtain ⟨y, r', hd', hd1', b', o', rfl, _, hb'⟩ := hr'.dropLt hlt
        have c0 := hr.at_ hd
        have c0' := hr'.at_ hd'
        have HD := Lib.hid hd
        have HD' := Lib.hid hd'
        have HE := Lib.hid hd1
        have HE' := Lib.hid hd1'
        have hi0' : (0 : Int) ≤ (j : Int) := Int.natCast_nonneg _
        have hi1 : (j : Int) < (n : Int) := by omega
        clear hd hd' hd1 hd1' hiff hjm hkr hr hr' h h' hl hl'
        by_cases hxy : x = y
        · subst hxy
          go_wp2_with fail
          go_quiet (fail)
          go_wp2_with fail
          go_roundg (gk - 1)
          case measure => have := HJ.out; omega
          case rel => exact ⟨j + 1, by have := HJ.out; omega, by go_num, by rw [HE.out, HE'.out, HI.out, HD.out, HD'.out]; simp, HK.out.drewN _⟩
        · have h1 := num_ne hxy
          go_wp2_with fail
          go_quiet (fail)
          go_wp2_with fail
          go_ret
          refine ⟨?_, HK.out.drewN _⟩
          have : xs ≠ ys := by rw [Ne, HI.out, HD.out, HD'.out]; simp [hxy]
          simp [this]
      · have HX : Hid (xs = ys) := by
          refine HI.out.2 ?_
          rw [List.drop_eq_nil_of_le (by omega), List.drop_eq_nil_of_le (by omega)]
        clear hiff hjm hkr hr hr' h h' hl hl'
        go_wp2_with fail
        go_ret
        refine ⟨?_, HK.out⟩
        simp [HX.out]
  · have hne : xs ≠ ys := fun e => hn (by rw [← hl, ← hl', e])
    go_enter Try.func16, Try.ntmps16
    go_wp2_with fail
    go_ret
    exact ⟨by simp [hne], Keeps.refl _ _⟩

theorem leaf_any (k : ByteArray) (w : World) :
    Calls Try.prog 32 #[.string k] w fun e w' => e = .returned (tv k 0 e0 none 0 0) ∧ Keeps (fun _ => False) w w' := by
  go_enter Try.func32, Try.ntmps32
  go_wp2_with fail
  refine bodyPost_ret (v := tv k 0 e0 none 0 0) (by simp [results, Try.results32, go_sem]) rfl ?_
  exact ⟨rfl, (Keeps.refl _ w).alloc _⟩
end Go.Proofs.Ytnphhibfiklfjaa
