/-
  espalierref2.Digits: its walk (of a number that is not great and not below nought).
-/
import Derived.Test.YtnphhibfiklfjaaKeep

import Derived.Laws.BytesArg

set_option linter.unusedVariables false

set_option linter.unusedSimpArgs false

namespace Go.Proofs.Ytnphhibfiklfjaa

open Go.RowKit

/-- The digits, ahead of those that are there. -/
def digs : Nat → Nat → List Int → List Int
  | 0, _, acc => acc
  | f + 1, n, acc => if n / 10 = 0 then (48 + (n % 10 : Nat) : Int) :: acc else digs f (n / 10) ((48 + (n % 10 : Nat) : Int) :: acc)
def digS (n : Nat) : ByteArray := strOfNums (digs 21 n [])
theorem digs_step {f n : Nat} (acc : List Int) (h : ¬ n / 10 = 0) : digs (f + 1) n acc = digs f (n / 10) ((48 + (n % 10 : Nat) : Int) :: acc) := by
  show (if n / 10 = 0 then _ else _) = _
  rw [if_neg h]
theorem digs_last {f n : Nat} (acc : List Int) (h : n / 10 = 0) : digs (f + 1) n acc = (48 + (n % 10 : Nat) : Int) :: acc := by
  show (if n / 10 = 0 then _ else _) = _
  rw [if_pos h]
theorem dig_bound {n0 n j : Nat} (h0 : n0 ≤ 1000000) (h : n ≤ n0 / 10 ^ j) (hn : 0 < n ∨ j = 0) : j ≤ 6 := by
  rcases hn with hn | hn
  · rcases Nat.lt_or_ge j 7 with h7 | h7
    · omega
    · have h1 : (10 : Nat) ^ 7 ≤ 10 ^ j := Nat.pow_le_pow_right (by omega) h7
      have h2 : n0 / 10 ^ j = 0 := Nat.div_eq_of_lt (by omega)
      omega
  · omega
theorem dig_next {n0 n j : Nat} (h : n ≤ n0 / 10 ^ j) : n / 10 ≤ n0 / 10 ^ (j + 1) := by
  rw [Nat.pow_succ, ← Nat.div_div_eq_div_mul]
  exact Nat.div_le_div_right h
/-- The last places of the array hold these. -/
def Tail (W : World) (B : Nat) (s : List Int) : Prop := (∃ cur, W.heap[B]? = some (.cells cur 102 (0, 0)) ∧ cur.size = 21) ∧ ∀ i, i < s.length → W.cell? ⟨B, 21 - s.length + i, none⟩ = some (.int .u8 (s.getD i 0))
theorem Tail.push {W : World} {B : Nat} {s : List Int} (h : Tail W B s) (hs : s.length < 21) (d : Int) : Tail (W.setCell ⟨B, 21 - (s.length + 1), none⟩ (.int .u8 d)) B (d :: s) := by
  obtain ⟨⟨cur, h1, h2⟩, h3⟩ := h
  refine ⟨⟨_, heap_set h1 _ _, by simp [h2]⟩, fun i hi => ?_⟩
  have hh := heap_set h1 (21 - (s.length + 1)) (.int .u8 d)
  cases i with
  | zero =>
    have e : 21 - (d :: s).length + 0 = 21 - (s.length + 1) := by simp only [List.length_cons]; omega
    rw [e]
    simp only [List.getD_cons_zero, World.cell?, hh]
    have hl : 21 - (s.length + 1) < cur.size := by omega
    show (cur.setIfInBounds (21 - (s.length + 1)) _)[21 - (s.length + 1)]? = _
    rw [Array.getElem?_setIfInBounds, if_pos rfl, if_pos hl]
  | succ i =>
    simp only [List.length_cons] at hi
    have h4 := h3 i (by omega)
    have e : 21 - (d :: s).length + (i + 1) = 21 - s.length + i := by simp only [List.length_cons]; omega
    rw [e]
    have hne : 21 - (s.length + 1) ≠ 21 - s.length + i := by omega
    simp only [World.cell?, hh, h1] at h4 ⊢
    simp only [Array.getElem?_setIfInBounds, hne, if_false, List.getD_cons_succ] at h4 ⊢
    exact h4
theorem Tail.fr {W : World} {B : Nat} {s : List Int} (h : Tail W B s) (i : Nat) : W.frozen? ⟨B, i, none⟩ = false := by
  obtain ⟨⟨cur, h1, h2⟩, _⟩ := h
  simp [World.frozen?, h1]
theorem Tail.any {W : World} {B : Nat} {s : List Int} (h : Tail W B s) {i : Nat} (hi : i < 21) : ∃ v, W.cell? ⟨B, i, none⟩ = some v := by
  obtain ⟨⟨cur, h1, h2⟩, _⟩ := h
  exact ⟨cur[i]'(by omega), by simp [World.cell?, h1, h2, hi]⟩
theorem sl21 (W : World) (B p : Nat) (hp : p < 21) : (Instr.sliceAt 102 (.pointer (some ⟨B, 0, none⟩)) (some (.int .i64 (p : Int))) none none).run Try.prog W = .ok (.slice (some ⟨B, p, none⟩) (21 - p) (21 - p)) W := by
  have hl : Try.prog.arrayLen 102 = 21 := by kernel_rfl
  have hz : (Go.sizeOf (Try.prog.elem 102)).run Try.prog W = .ok 1 W := by kernel_rfl
  have h := run_sliceAt_array_l (P := Try.prog) W 102 ⟨B, 0, none⟩ (by kernel_rfl) .i64 (p : Int) (by omega) (by rw [hl]; omega)
  rw [h, hz, hl]
  show Result.ok (slicedAt ⟨B, 0, none⟩ (p : Int).toNat 21 21 1) W = _
  unfold slicedAt
  rw [show (p : Int).toNat = p by omega, if_neg (by omega), show p * 1 = p by omega, add0]
set_option maxRecDepth 100000 in
set_option maxHeartbeats 3200000 in
theorem digits_any (n0 : Nat) (hn0 : n0 ≤ 1000000) (w : World) :
    Calls Try.prog 61 #[.int .i64 (n0 : Int)] w fun e w' => e = .returned (.string (digS n0)) ∧ Keeps (fun _ => False) w w' := by
  obtain ⟨W1, hW1⟩ : ∃ W1, W1 = w.alloc (.cells (#[.int .u8 0, .int .u8 0, .int .u8 0, .int .u8 0, .int .u8 0, .int .u8 0, .int .u8 0, .int .u8 0, .int .u8 0, .int .u8 0, .int .u8 0, .int .u8 0, .int .u8 0, .int .u8 0, .int .u8 0, .int .u8 0, .int .u8 0, .int .u8 0, .int .u8 0, .int .u8 0, .int .u8 0]) 102) := ⟨_, rfl⟩
  have hK : Keeps (fun _ => False) w W1 := by rw [hW1]; exact (Keeps.refl _ w).alloc _
  have hb1 : W1.heap[w.heap.size]? = some (.cells (#[.int .u8 0, .int .u8 0, .int .u8 0, .int .u8 0, .int .u8 0, .int .u8 0, .int .u8 0, .int .u8 0, .int .u8 0, .int .u8 0, .int .u8 0, .int .u8 0, .int .u8 0, .int .u8 0, .int .u8 0, .int .u8 0, .int .u8 0, .int .u8 0, .int .u8 0, .int .u8 0, .int .u8 0]) 102 (0, 0)) := by rw [hW1]; exact heap_alloc_new _ _
  have ht0 : Tail W1 w.heap.size [] := ⟨⟨_, hb1, by simp⟩, fun i hi => by simp at hi⟩
  have HW := Lib.hid hW1
  have HT := Lib.hid ht0
  have hnz : ¬ (n0 : Int) < 0 := by omega
  clear hW1 hb1 ht0
  go_enter Try.func61, Try.ntmps61
  go_upto_region 2 with fail
  rw [← HW.out]
  go_wp2_with fail
  go_loopg [4, 5] 20 (fun p a u W => a = .int .i64 ((p : Int) + 1) ∧ ∃ (j n : Nat) (s : List Int), u = .int .u64 (n : Int) ∧ s.length = j ∧ digs 21 n0 [] = digs (p + 1) n s ∧ n ≤ n0 / 10 ^ j ∧ (0 < n ∨ j = 0) ∧ p + j = 20 ∧ Tail W w.heap.size s ∧ Keeps (fun b => b = w.heap.size) W1 W)
  case atStart =>
    refine ⟨rfl, 0, n0, [], rfl, rfl, rfl, by simp, .inr rfl, rfl, ?_, ?_⟩
    · exact HT.out
    · exact Keeps.refl _ _
  case round =>
    obtain ⟨V, hV⟩ : ∃ X, X = wr := ⟨_, rfl⟩
    subst hV
    obtain ⟨rfl, j, n, s, rfl, hs, hd, hn, hnj, hpj, hT, hk⟩ := hrel
    have hj := dig_bound hn0 hn hnj
    have hpe : 21 - (s.length + 1) = gk := by omega
    have hT2 := hT.push (by omega) (48 + ((n : Int) % 10))
    rw [hpe] at hT2
    have hk2 : Keeps (fun b => b = w.heap.size) W1 (V.setCell ⟨w.heap.size, gk, none⟩ (.int .u8 (48 + ((n : Int) % 10)))) := hk.setCell (p := ⟨w.heap.size, gk, none⟩) (fun _ => rfl) _
    obtain ⟨cv, hc⟩ := hT.any (i := gk) (by omega)
    have hf := hT.fr gk
    have hnb : n ≤ 1000000 := Nat.le_trans hn (Nat.le_trans (Nat.div_le_self _ _) hn0)
    have hw : IntKind.u64.wrap ((n : Int) / 10) = ((n / 10 : Nat) : Int) := by simp only [IntKind.wrap_u64]; omega
    have hS := Lib.hid (fun W => sl21 W w.heap.size gk (by omega))
    have HT2 := Lib.hid hT2
    have HK2 := Lib.hid hk2
    have HN := Lib.hid hn
    have HJ := Lib.hid hpj
    have HSL := Lib.hid hs
    have HD := Lib.hid hd
    have hg20 : gk ≤ 20 := by omega
    have hg14 : 14 ≤ gk := by omega
    have hn10 : (0 : Int) ≤ (n : Int) % 10 := by omega
    clear hT hT2 hk hk2 hn hnj hs hd hpe
    by_cases h10 : n / 10 = 0
    · have he : ((((n / 10 : Nat)) : Int) == 0) = true := by simp; omega
      have hz : ((0 : Nat) : Int) = 0 := rfl
      have hcv : Hid (∀ W, Tail W w.heap.size ((48 + (n : Int) % 10) :: s) → (convert 104 9 (.slice (some ⟨w.heap.size, gk, none⟩) (21 - gk) (21 - gk))).run Try.prog W = .ok (.string (digS n0)) W) := Lib.hid fun W hW => by
        have hlen : ((48 + (n : Int) % 10) :: s).length = 21 - gk := by simp only [List.length_cons]; have := HSL.out; have := HJ.out; omega
        have h := run_convert_bytes_arg (P := Try.prog) W 104 5 (by kernel_rfl) (by kernel_rfl) w.heap.size gk (21 - gk) (21 - gk) ((48 + (n : Int) % 10) :: s) hlen (fun i hi => by
          have := hW.2 i (by omega)
          rwa [hlen, show 21 - (21 - gk) + i = gk + i by omega] at this) 9 (by kernel_rfl)
        rw [h, digS, HD.out, digs_last _ h10]
        congr 3
      have hcf := hcv.out _ HT2.out
      clear hcv
      have hsl := hS.out (V.setCell ⟨w.heap.size, gk, none⟩ (.int .u8 (48 + ((n : Int) % 10))))
      go_wp2_with fail
      refine bodyPost_ret (v := .string (digS n0)) (by simp [results, Try.results61, go_sem]) rfl ?_
      exact ⟨rfl, hK.trans' HK2.out (fun b hb hl => by omega)⟩
    · have he : ((((n / 10 : Nat)) : Int) == 0) = false := by simp; omega
      go_wp2_with fail
      go_roundg (gk - 1)
      case measure => omega
      case rel =>
        refine ⟨by go_num, j + 1, n / 10, (48 + (n : Int) % 10) :: s, rfl, by rw [List.length_cons, HSL.out], ?_, dig_next HN.out, .inl (by omega), by omega, HT2.out, HK2.out⟩
        rw [HD.out, digs_step _ h10, show gk - 1 + 1 = gk by omega]
        congr 2
end Go.Proofs.Ytnphhibfiklfjaa
