/-
  sign.Kind and what it calls: their walks.
-/
import Derived.Test.YtnphhibfiklfjaaPkA

import Derived.Test.YtnphhibfiklfjaaWalkC

import Derived.Laws.RangeAny

set_option linter.unusedVariables false

set_option linter.unusedSimpArgs false

namespace Go.Proofs.Ytnphhibfiklfjaa

open Go.RowKit

theorem small_any (r : Int) (w : World) : Calls Try.prog 73 #[.int .i32 r] w fun e w' => e = .returned (.bool (smallR r)) ∧ w = w' := by
  by_cases h : 97 ≤ r
  all_goals
    go_enter Try.func73, Try.ntmps73
    go_wp2_with fail
    go_ret
    exact ⟨by first | (simp [smallR, h]; done) | (simp [smallR, h]; omega), rfl⟩
theorem digit_any (r : Int) (w : World) : Calls Try.prog 75 #[.int .i32 r] w fun e w' => e = .returned (.bool (digitR r)) ∧ w = w' := by
  by_cases h : 48 ≤ r
  all_goals
    go_enter Try.func75, Try.ntmps75
    go_wp2_with fail
    go_ret
    exact ⟨by first | (simp [digitR, h]; done) | (simp [digitR, h]; omega), rfl⟩
theorem wordr_any (r : Int) (w : World) : Calls Try.prog 74 #[.int .i32 r] w fun e w' => e = .returned (.bool (wordR r)) ∧ w = w' := by
  obtain ⟨b, hb⟩ : ∃ b, smallR r = b := ⟨_, rfl⟩
  have hs := small_any r w
  rw [hb] at hs
  cases b with
  | true =>
    go_enter Try.func74, Try.ntmps74
    go_wp2_with fail
    refine hs.mono ?_
    rintro e w' ⟨rfl, rfl⟩
    go_wp2_with fail
    go_ret
    exact ⟨by simp [wordR, hb], rfl⟩
  | false =>
    have hd := digit_any r w
    go_enter Try.func74, Try.ntmps74
    go_wp2_with fail
    refine hs.mono ?_
    rintro e w' ⟨rfl, rfl⟩
    go_wp2_with fail
    refine hd.mono ?_
    rintro e w' ⟨rfl, rfl⟩
    go_wp2_with fail
    go_ret
    exact ⟨by simp [wordR, hb], rfl⟩

set_option maxRecDepth 100000 in
set_option maxHeartbeats 800000 in
theorem made_any (s : ByteArray) (most : Int) (f1 f2 : Nat) (cap1 cap2 : Array Value) (p1 p2 : Int → Bool) (w : World) (hs : s.size ≤ 140737488351232)
    (e1 : ∀ args w, (callFunc f1 args).run Try.prog w = .ok (.enter f1 args) w) (e2 : ∀ args w, (callFunc f2 args).run Try.prog w = .ok (.enter f2 args) w)
    (hc1 : ∀ r W, Keeps (fun _ => False) w W → Calls Try.prog f1 (#[.int .i32 r] ++ cap1) W fun e w' => e = .returned (.bool (p1 r)) ∧ W = w')
    (hc2 : ∀ r W, Keeps (fun _ => False) w W → Calls Try.prog f2 (#[.int .i32 r] ++ cap2) W fun e w' => e = .returned (.bool (p2 r)) ∧ W = w') (hp2 : ∀ r, 128 ≤ r → p2 r = false) :
    Calls Try.prog 72 #[.string s, .int .i64 most, .func (.func f1) #[] cap1, .func (.func f2) #[] cap2] w fun e w' => e = .returned (.bool (madeB s.data.toList most p1 p2)) ∧ Keeps (fun _ => False) w w' := by
  have hsz : s.size = s.data.toList.length := by simp
  cases hl : s.data.toList with
  | nil =>
    have h0 : s.toList = [] := by rw [ByteArray.toList_eq]; exact hl
    go_enter Try.func72, Try.ntmps72
    go_wp2_with fail
    go_ret
    exact ⟨rfl, Keeps.refl _ _⟩
  | cons c0 r0 =>
    have h0 : s.toList = c0 :: r0 := by rw [ByteArray.toList_eq]; exact hl
    have hpos : 0 < s.size := by rw [hsz, hl]; simp
    have HL := Lib.hid hl
    have HZ := Lib.hid hsz
    clear hl hsz
    by_cases hm : (s.size : Int) ≤ most
    · have hK : ∀ pos, Keeps (fun _ => False) w (w.iter s pos) := fun pos => (Keeps.refl _ w).alloc _
      have hc1' := fun r pos => hc1 r (w.iter s pos) (hK pos)
      have hc2' := fun r pos => hc2 r (w.iter s pos) (hK pos)
      have hk0 : ∀ (h : 0 < s.size), s[0]'h = c0 := fun h => by
        have h1 : s.data.toList[0]'(by simpa using h) = c0 := by simp [HL.out]
        exact h1
      -- the end's answers
      have hfalse : ∀ pos (h : pos < s.size), ((s[pos]'h).toNat < 128 → pos = 0 ∧ p1 (s[pos]'h).toNat = false ∨ p2 (s[pos]'h).toNat = false) → (s[pos]'h).toNat < 128 ∨ p2 (s[pos]'h).toNat = false → madeB (c0 :: r0) most p1 p2 = false := by
        intro pos h h1 h2
        simp only [madeB, Bool.and_eq_false_iff]
        have hall : p2 (s[pos]'h).toNat = false → ((c0 :: r0).all fun c => p2 c.toNat) = false := fun hp => by
          rw [List.all_eq_false]
          refine ⟨s[pos]'h, ?_, by simp [hp]⟩
          rw [← HL.out]
          exact List.getElem_mem (l := s.data.toList) (by simpa using h)
        rcases h2 with h2 | h2
        · rcases h1 h2 with ⟨rfl, h3⟩ | h3
          · rw [hk0] at h3
            exact .inl (.inr h3)
          · exact .inr (hall h3)
        · exact .inr (hall h2)
      clear hc1 hc2
      go_enter Try.func72, Try.ntmps72
      go_wp2_with fail
      go_loopg [] s.size (fun m W => ∃ pos : Nat, pos + m = s.size ∧ W = w.iter s pos ∧ ((s.data.toList.take pos).all fun c => p2 c.toNat) = true ∧ (0 < pos → p1 c0.toNat = true))
      case atStart => exact ⟨0, by omega, rfl, rfl, fun h => absurd h (by omega)⟩
      case round =>
        obtain ⟨pos, hpm, rfl, hall, hfst⟩ := hrel
        have HM := Lib.hid hpm
        have HA := Lib.hid hall
        have HF := Lib.hid hfst
        clear hpm hall hfst
        by_cases hlt : pos < s.size
        · by_cases ha : (s[pos]'hlt).toNat < 128
          · have hnx : ∀ ty, (Instr.next (.pointer (some ⟨w.heap.size, 0, none⟩)) true ty).run Try.prog (w.iter s pos) = _ := fun ty => run_next_ascii w s pos ty hlt ha
            have hf := hfalse pos hlt
            obtain ⟨cc, hcc⟩ : ∃ cc, s[pos]'hlt = cc := ⟨_, rfl⟩
            simp only [hcc] at hnx hf ha
            have HC := Lib.hid hcc
            have hr1 := hc1' cc.toNat (pos + 1)
            have hr2 := hc2' cc.toNat (pos + 1)
            have HK1 := Lib.hid hK
            have HFa := Lib.hid hf
            clear hcc hc1' hc2' hfalse hK hf
            obtain ⟨v1, hv1⟩ : ∃ v, p1 cc.toNat = v := ⟨_, rfl⟩
            obtain ⟨v2, hv2⟩ : ∃ v, p2 cc.toNat = v := ⟨_, rfl⟩
            rw [hv1] at hr1
            rw [hv2] at hr2
            have HV1 := Lib.hid hv1
            have HV2 := Lib.hid hv2
            clear hv1 hv2
            have hend : (pos = 0 ∧ v1 = false ∨ v2 = false) → Ending.returned (.bool false) = .returned (.bool (madeB (c0 :: r0) most p1 p2)) ∧ Keeps (fun _ => False) w (w.iter s (pos + 1)) := fun h => by
              refine ⟨?_, HK1.out _⟩
              rw [HFa.out (fun _ => by rw [HV1.out, HV2.out]; exact h) (.inl ha)]
            have hgo : v2 = true → (pos = 0 → v1 = true) → ((s.data.toList.take (pos + 1)).all fun c => p2 c.toNat) = true ∧ (0 < pos + 1 → p1 c0.toNat = true) := fun h2 h1 => by
              refine ⟨?_, fun _ => ?_⟩
              · rw [all_take_succ (by simpa using hlt), HA.out, data_at s pos hlt, HC.out, HV2.out, h2]
                rfl
              · by_cases h0 : pos = 0
                · rw [← h1 h0, ← HV1.out, ← HC.out]
                  subst h0
                  rw [hk0 hlt]
                · exact HF.out (by omega)
            have HE := Lib.hid hend
            have HG := Lib.hid hgo
            clear hend hgo hk0
            by_cases hp0 : pos = 0
            · have hq : ((pos : Int) == 0) = true := by simp [hp0]
              have HP := Lib.hid hp0
              clear hp0
              cases v1 with
              | false =>
                go_wp2_with fail
                refine hr1.mono ?_
                rintro e w' ⟨rfl, rfl⟩
                go_wp2_with fail
                go_ret
                exact HE.out (.inl ⟨HP.out, by simp⟩)
              | true =>
                go_wp2_with fail
                refine hr1.mono ?_
                rintro e w' ⟨rfl, rfl⟩
                go_wp2_with fail
                refine hr2.mono ?_
                rintro e w' ⟨rfl, rfl⟩
                cases v2 with
                | false =>
                  go_wp2_with fail
                  go_ret
                  exact HE.out (.inr (by simp))
                | true =>
                  go_wp2_with fail
                  go_roundg (gk - 1)
                  case measure => have := HM.out; omega
                  case rel => exact ⟨pos + 1, by have := HM.out; omega, rfl, HG.out (by simp) (fun _ => by simp)⟩
            · have hq : ((pos : Int) == 0) = false := by simp [hp0]
              have HP := Lib.hid hp0
              clear hp0
              go_wp2_with fail
              refine hr2.mono ?_
              rintro e w' ⟨rfl, rfl⟩
              cases v2 with
              | false =>
                go_wp2_with fail
                go_ret
                exact HE.out (.inr (by simp))
              | true =>
                go_wp2_with fail
                go_roundg (gk - 1)
                case measure => have := HM.out; omega
                case rel => exact ⟨pos + 1, by have := HM.out; omega, rfl, HG.out (by simp) (fun h => absurd h HP.out)⟩
          · have hnx : ∀ ty, (Instr.next (.pointer (some ⟨w.heap.size, 0, none⟩)) true ty).run Try.prog (w.iter s pos) = _ := fun ty => run_next_any w s pos ty hlt
            have hhi := (decode_high s pos hlt (by omega)).1
            obtain ⟨np, hnp⟩ : ∃ np, pos + (Utf8.decode s pos).2 = np := ⟨_, rfl⟩
            obtain ⟨rr, hrr⟩ : ∃ rr, ((Utf8.decode s pos).1 : Int) = rr := ⟨_, rfl⟩
            simp only [hnp, hrr] at hnx
            have hr1 := hc1' rr np
            have hr2 := hc2' rr np
            rw [hp2 rr (by omega)] at hr2
            have hb : madeB (c0 :: r0) most p1 p2 = false := hfalse pos hlt (fun h => absurd h ha) (.inr (hp2 _ (by omega)))
            have HB := Lib.hid hb
            have HK1 := Lib.hid hK
            obtain ⟨v1, hv1⟩ : ∃ v, p1 rr = v := ⟨_, rfl⟩
            rw [hv1] at hr1
            clear hnp hrr hc1' hc2' hfalse hK hhi hk0 hp2 hb hv1
            by_cases hp0 : pos = 0
            · have hq : ((pos : Int) == 0) = true := by simp [hp0]
              have HP := Lib.hid hp0
              clear hp0
              cases v1 with
              | false =>
                go_wp2_with fail
                refine hr1.mono ?_
                rintro e w' ⟨rfl, rfl⟩
                go_wp2_with fail
                go_ret
                exact ⟨by rw [HB.out]; rfl, HK1.out _⟩
              | true =>
                go_wp2_with fail
                refine hr1.mono ?_
                rintro e w' ⟨rfl, rfl⟩
                go_wp2_with fail
                refine hr2.mono ?_
                rintro e w' ⟨rfl, rfl⟩
                go_wp2_with fail
                go_ret
                exact ⟨by rw [HB.out]; rfl, HK1.out _⟩
            · have hq : ((pos : Int) == 0) = false := by simp [hp0]
              have HP := Lib.hid hp0
              clear hp0
              go_wp2_with fail
              refine hr2.mono ?_
              rintro e w' ⟨rfl, rfl⟩
              go_wp2_with fail
              go_ret
              exact ⟨by rw [HB.out]; rfl, HK1.out _⟩
        · have hnx : ∀ ty, (Instr.next (.pointer (some ⟨w.heap.size, 0, none⟩)) true ty).run Try.prog (w.iter s pos) = _ := fun ty => run_next_end w s pos ty hlt
          have hb : madeB (c0 :: r0) most p1 p2 = true := by
            have hlen : ((c0 :: r0).length : Int) = s.size := by rw [HZ.out, HL.out]
            have hall : ((c0 :: r0).all fun c => p2 c.toNat) = true := by
              have h1 := HA.out
              rwa [List.take_of_length_le (by rw [← HZ.out]; omega), HL.out] at h1
            have h1 : p1 c0.toNat = true := HF.out (by omega)
            simp only [madeB, hlen, hm, decide_true, h1, hall, Bool.and_true]
          have HB := Lib.hid hb
          have HK1 := Lib.hid hK
          clear hc1' hc2' hfalse hK hk0 hb
          go_wp2_with fail
          go_ret
          exact ⟨by rw [HB.out]; rfl, HK1.out _⟩
    · have hb : madeB (c0 :: r0) most p1 p2 = false := by
        have : ((c0 :: r0).length : Int) = s.size := by rw [HZ.out, HL.out]
        simp only [madeB, this, hm, decide_false, Bool.false_and]
      rw [hb]
      clear hb
      go_enter Try.func72, Try.ntmps72
      go_wp2_with fail
      go_ret
      exact ⟨rfl, Keeps.refl _ _⟩
end Go.Proofs.Ytnphhibfiklfjaa
