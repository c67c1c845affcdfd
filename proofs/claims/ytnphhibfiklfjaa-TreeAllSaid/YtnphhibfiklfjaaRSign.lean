/-
  espalierref3.small, digit, Word, Kind: their walks.
-/
import Derived.Test.YtnphhibfiklfjaaSign2
import Derived.StillTailTactics
import Derived.BigQuiet
import Derived.Deep.LoopGhost
set_option linter.unusedVariables false
set_option linter.unusedSimpArgs false
namespace Go.Proofs.Ytnphhibfiklfjaa
open Go.RowKit

theorem rsmall_any (r : Int) (w : World) : Calls Try.prog 78 #[.int .u8 r] w fun e w' => e = .returned (.bool (smallR r)) ∧ w = w' := by
  by_cases h : 97 ≤ r
  all_goals
    go_enter Try.func78, Try.ntmps78
    go_wp2_with fail
    go_ret
    exact ⟨by first | (simp [smallR, h]; done) | (simp [smallR, h]; omega), rfl⟩
theorem rdigit_any (r : Int) (w : World) : Calls Try.prog 79 #[.int .u8 r] w fun e w' => e = .returned (.bool (digitR r)) ∧ w = w' := by
  by_cases h : 48 ≤ r
  all_goals
    go_enter Try.func79, Try.ntmps79
    go_wp2_with fail
    go_ret
    exact ⟨by first | (simp [digitR, h]; done) | (simp [digitR, h]; omega), rfl⟩
theorem byteAt (s : ByteArray) (j : Nat) (h : j < s.size) (w : World) : (Instr.index 9 (.string s) (.int .i64 (j : Int))).run Try.prog w = .ok (.int .u8 ((s[j]'h).toNat : Int)) w := by
  rw [run_index_string w 9 s .i64 _ Try.underlying9, dif_pos ⟨by omega, by omega⟩]
  have e : ((j : Int)).toNat = j := by omega
  simp only [e]
theorem wordB_long (s : ByteArray) (h : ¬ (1 ≤ s.size ∧ s.size ≤ 16)) : wordB s.data.toList = false := by
  have hsz : s.size = s.data.toList.length := by simp
  unfold wordB madeB
  cases hl : s.data.toList with
  | nil => rfl
  | cons c r =>
    have h3 : s.size = (c :: r).length := by rw [hsz, hl]
    have h2 : ¬ (((c :: r).length : Int) ≤ 16) := by
      have h4 : 1 ≤ (c :: r).length := by simp
      omega
    show (decide (((c :: r).length : Int) ≤ 16) && smallR c.toNat && (c :: r).all fun c => wordR c.toNat) = false
    rw [decide_eq_false h2]
    simp
theorem wordB_mid (s : ByteArray) (h : 0 < s.size) (h2 : s.size ≤ 16) : wordB s.data.toList = (smallR (s[0]'h).toNat && s.data.toList.all fun c => wordR c.toNat) := by
  have hsz : s.size = s.data.toList.length := by simp
  have h0 : s.data.toList[0]'(by simpa using h) = s[0]'h := data_at s 0 h
  unfold wordB madeB
  cases hl : s.data.toList with
  | nil =>
    have h5 : s.size = 0 := by rw [hsz, hl]; rfl
    omega
  | cons c r =>
    have h3 : c = s[0]'h := by rw [← h0]; simp [hl]
    have h4 : ((c :: r).length : Int) ≤ 16 := by rw [← hl]; omega
    show (decide (((c :: r).length : Int) ≤ 16) && smallR c.toNat && (c :: r).all fun c => wordR c.toNat) = _
    rw [decide_eq_true h4, h3]
    simp
set_option maxRecDepth 100000 in
set_option maxHeartbeats 800000 in
theorem rWord_any (s : ByteArray) (w : World) (hs : s.size ≤ 140737488351232) : Calls Try.prog 76 #[.string s] w fun e w' => e = .returned (.bool (wordB s.data.toList)) ∧ Keeps (fun _ => False) w w' := by
  by_cases h1 : s.size < 1
  · have hf := wordB_long s (by omega)
    have h1i : (s.size : Int) < 1 := by omega
    rw [hf]
    clear hf h1
    go_enter Try.func76, Try.ntmps76
    go_wp2_with fail
    go_ret
    exact ⟨rfl, Keeps.refl _ _⟩
  · have h1i : ¬ (s.size : Int) < 1 := by omega
    by_cases h2 : 16 < s.size
    · have hf := wordB_long s (by omega)
      have h2i : (16 : Int) < (s.size : Int) := by omega
      rw [hf]
      clear hf h1
      go_enter Try.func76, Try.ntmps76
      go_wp2_with fail
      go_ret
      exact ⟨rfl, Keeps.refl _ _⟩
    · have h2i : ¬ (16 : Int) < (s.size : Int) := by omega
      have hpos : 0 < s.size := by omega
      have hm := wordB_mid s hpos (by omega)
      have hsm := fun W => rsmall_any (s[0]'hpos).toNat W
      obtain ⟨v0, hv0⟩ : ∃ v, smallR (s[0]'hpos).toNat = v := ⟨_, rfl⟩
      simp only [hv0] at hsm hm
      obtain ⟨va, hva⟩ : ∃ v, (s.data.toList.all fun c => wordR c.toNat) = v := ⟨_, rfl⟩
      rw [hva] at hm
      have HVA := Lib.hid hva
      have hsz : s.size = s.data.toList.length := by simp
      have HSZ := Lib.hid hsz
      rw [hm]
      clear hm hv0 hva hsz h1 h2
      cases v0 with
      | false =>
        go_enter Try.func76, Try.ntmps76
        go_wp2_with fail
        refine (hsm _).mono ?_
        rintro e w' ⟨rfl, rfl⟩
        go_wp2_with fail
        go_ret
        exact ⟨rfl, Keeps.refl _ _⟩
      | true =>
        go_enter Try.func76, Try.ntmps76
        go_wp2_with fail
        refine (hsm _).mono ?_
        rintro e w' ⟨rfl, rfl⟩
        clear hsm h1i h2i
        go_wp2_with fail
        go_loopg [3] s.size (fun m i W => ∃ j : Nat, j + m = s.size ∧ i = .int .i64 j ∧ ((s.data.toList.take j).all fun c => wordR c.toNat) = true ∧ Keeps (fun _ => False) w W)
        case atStart => exact ⟨0, by omega, rfl, rfl, Keeps.refl _ _⟩
        case round =>
          obtain ⟨j, hjm, rfl, hall, hk⟩ := hrel
          have HM := Lib.hid hjm
          have HA := Lib.hid hall
          have HK := Lib.hid hk
          clear hjm hall hk
          by_cases hlt : j < s.size
          · have hlti : (j : Int) < (s.size : Int) := by omega
            have hz := fun W => byteAt s j hlt W
            have ht := all_take_succ (l := s.data.toList) (p := fun c => wordR c.toNat) (k := j) (by rw [← HSZ.out]; exact hlt)
            rw [HA.out, data_at s j hlt, Bool.true_and] at ht
            have hall : (s.data.toList.all fun c => wordR c.toNat) = true → wordR (s[j]'hlt).toNat = true := fun h => by
              rw [List.all_eq_true] at h
              exact h _ (List.getElem_mem (l := s.data.toList) (by rw [← HSZ.out]; exact hlt))
            obtain ⟨c, hc⟩ : ∃ c, s[j]'hlt = c := ⟨_, rfl⟩
            simp only [hc] at hz ht hall
            have hsm := fun W => rsmall_any c.toNat W
            have hdg := fun W => rdigit_any c.toNat W
            obtain ⟨v1, hv1⟩ : ∃ v, smallR c.toNat = v := ⟨_, rfl⟩
            obtain ⟨v2, hv2⟩ : ∃ v, digitR c.toNat = v := ⟨_, rfl⟩
            have hw : wordR c.toNat = (v1 || v2) := by simp only [wordR, hv1, hv2]
            simp only [hv1] at hsm
            simp only [hv2] at hdg
            rw [hw] at ht hall
            have HT := Lib.hid ht
            have HAL := Lib.hid hall
            clear hc hv1 hv2 hw ht hall hlt
            cases v1 with
            | true =>
              go_wp2_with fail
              refine (hsm _).mono ?_
              rintro e w' ⟨rfl, rfl⟩
              go_wp2_with fail
              go_roundg (gk - 1)
              case measure => have := HM.out; omega
              case rel => exact ⟨j + 1, by have := HM.out; omega, by go_num, by rw [HT.out]; rfl, HK.out⟩
            | false =>
              cases v2 with
              | true =>
                go_wp2_with fail
                refine (hsm _).mono ?_
                rintro e w' ⟨rfl, rfl⟩
                go_wp2_with fail
                refine (hdg _).mono ?_
                rintro e w' ⟨rfl, rfl⟩
                go_wp2_with fail
                go_roundg (gk - 1)
                case measure => have := HM.out; omega
                case rel => exact ⟨j + 1, by have := HM.out; omega, by go_num, by rw [HT.out]; rfl, HK.out⟩
              | false =>
                go_wp2_with fail
                refine (hsm _).mono ?_
                rintro e w' ⟨rfl, rfl⟩
                go_wp2_with fail
                refine (hdg _).mono ?_
                rintro e w' ⟨rfl, rfl⟩
                go_wp2_with fail
                go_ret
                have hf : va = false := by
                  cases va with
                  | false => rfl
                  | true => exact absurd (HAL.out HVA.out) (by simp)
                exact ⟨by rw [hf]; rfl, HK.out⟩
          · have hlti : ¬ (j : Int) < (s.size : Int) := by omega
            have hall : (s.data.toList.all fun c => wordR c.toNat) = true := by
              have h1 := HA.out
              rwa [List.take_of_length_le (by rw [← HSZ.out]; omega)] at h1
            have HB := Lib.hid (HVA.out.symm.trans hall)
            clear hall
            go_wp2_with fail
            go_ret
            exact ⟨by rw [HB.out]; rfl, HK.out⟩
theorem idx_none : ∀ (l : List UInt8), (∀ c ∈ l, c ≠ 46) → Lib.indexByte l 46 = -1
  | [], _ => by simp [Lib.indexByte]
  | b :: l, h => by
    have h1 := idx_none l (fun c hc => h c (List.mem_cons_of_mem _ hc))
    have h2 := h b (List.mem_cons_self ..)
    unfold Lib.indexByte
    rw [if_neg (by simpa using h2), h1]
    rfl
theorem idx_at : ∀ (l : List UInt8) (j : Nat) (hj : j < l.length), (∀ c ∈ l.take j, c ≠ 46) → l[j] = 46 → Lib.indexByte l 46 = (j : Int)
  | b :: l, 0, _, _, h => by
    have h : b = 46 := h
    unfold Lib.indexByte
    rw [if_pos (by simpa using h)]
    rfl
  | b :: l, j + 1, hj, h, h1 => by
    have h2 := idx_at l j (by simpa using hj) (fun c hc => h c (by simp [hc])) (by simpa using h1)
    have h3 := h b (by simp)
    unfold Lib.indexByte
    rw [if_neg (by simpa using h3), h2, if_neg (by rw [beq_iff_eq]; omega)]
    omega
theorem kindB_none (s : ByteArray) (h : ∀ c ∈ s.data.toList, c ≠ 46) : kindB s.data.toList = false := by
  unfold kindB
  rw [idx_none _ h]
  rfl
theorem kindB_at (s : ByteArray) (j : Nat) (hj : j < s.size) (h : ∀ c ∈ s.data.toList.take j, c ≠ 46) (h1 : s[j]'hj = 46) :
    kindB s.data.toList = (wordB (s.extract 0 j).data.toList && wordB (s.extract (j + 1) s.size).data.toList) := by
  unfold kindB
  rw [idx_at s.data.toList j (by simpa using hj) h h1, if_neg (by omega)]
  rw [Lib.extract_to_end, Lib.extract_data]
  simp

set_option maxRecDepth 100000 in
set_option maxHeartbeats 800000 in
theorem rKind_any (s : ByteArray) (w : World) (hs : s.size ≤ 140737488351232) : Calls Try.prog 70 #[.string s] w (KindR s w) := by
  have HS := Lib.hid hs
  clear hs
  go_enter Try.func70, Try.ntmps70
  go_wp2_with fail
  go_loopg [5] s.size (fun m i W => ∃ j : Nat, j + m = s.size ∧ i = .int .i64 j ∧ (∀ c ∈ s.data.toList.take j, c ≠ 46) ∧ Keeps (fun _ => False) w W)
  case atStart => exact ⟨0, by omega, rfl, by simp, Keeps.refl _ _⟩
  case round =>
    obtain ⟨j, hjm, rfl, hall, hk⟩ := hrel
    have HM := Lib.hid hjm
    have HA := Lib.hid hall
    have HK := Lib.hid hk
    clear hjm hall hk
    have hsz : s.size = s.data.toList.length := by simp
    have HSZ := Lib.hid hsz
    clear hsz
    by_cases hlt : j < s.size
    · have hlti : (j : Int) < (s.size : Int) := by omega
      have hle0 : (0 : Int) ≤ (j : Int) := Int.natCast_nonneg _
      have hj1 : (j : Int) + 1 ≤ (s.size : Int) := by omega
      have hs := HS.out
      have hsi : (s.size : Int) ≤ 140737488351232 := by omega
      have hz := fun W => byteAt s j hlt W
      have HLT := Lib.hid hlt
      obtain ⟨c, hc⟩ : ∃ c, s[j]'hlt = c := ⟨_, rfl⟩
      simp only [hc] at hz
      have HC : Hid (s[j]'HLT.out = c) := hc
      clear hc hlt
      by_cases hdot : c = 46
      · have hkb := kindB_at s j HLT.out HA.out (HC.out.trans hdot)
        have hz1 : (s.extract 0 j).size ≤ 140737488351232 := by have := HS.out; simp only [ByteArray.size_extract]; omega
        have hz2 : (s.extract (j + 1) s.size).size ≤ 140737488351232 := by have := HS.out; simp only [ByteArray.size_extract]; omega
        have hw1 := fun W => rWord_any (s.extract 0 j) W hz1
        have hw2 := fun W => rWord_any (s.extract (j + 1) s.size) W hz2
        obtain ⟨v1, hv1⟩ : ∃ v, wordB (s.extract 0 j).data.toList = v := ⟨_, rfl⟩
        obtain ⟨v2, hv2⟩ : ∃ v, wordB (s.extract (j + 1) s.size).data.toList = v := ⟨_, rfl⟩
        simp only [hv1] at hw1
        simp only [hv2] at hw2
        rw [hv1, hv2] at hkb
        have HKB := Lib.hid hkb
        subst hdot
        clear hv1 hv2 hkb hz1 hz2
        cases v1 with
        | false =>
          go_wp2_with fail
          refine (hw1 _).mono ?_
          rintro e w1 ⟨rfl, hk1⟩
          go_wp2_with fail
          go_ret3
          exact ⟨_, _, by rw [HKB.out]; rfl, HK.out.trans hk1⟩
        | true =>
          go_wp2_with fail
          refine (hw1 _).mono ?_
          rintro e w1 ⟨rfl, hk1⟩
          cases v2 with
          | false =>
            go_wp2_with fail
            refine (hw2 _).mono ?_
            rintro e w2 ⟨rfl, hk2⟩
            go_wp2_with fail
            go_ret3
            exact ⟨_, _, by rw [HKB.out]; rfl, (HK.out.trans hk1).trans hk2⟩
          | true =>
            go_wp2_with fail
            refine (hw2 _).mono ?_
            rintro e w2 ⟨rfl, hk2⟩
            go_wp2_with fail
            go_quiet (fail)
            go_wp2_with fail
            go_ret3
            exact ⟨_, _, by rw [HKB.out]; rfl, ((HK.out.trans hk1).trans hk2).drewN _⟩
      · have hne : ((c.toNat : Int) == 46) = false := by
          rw [beq_eq_false_iff_ne]
          intro he
          apply hdot
          apply UInt8.toNat_inj.1
          show c.toNat = 46
          omega
        have HD := Lib.hid hdot
        clear hdot
        go_wp2_with fail
        go_roundg (gk - 1)
        case measure => have := HM.out; omega
        case rel =>
          refine ⟨j + 1, by have := HM.out; omega, by go_num, ?_, HK.out⟩
          intro x hx
          rw [List.take_succ_eq_append_getElem (by rw [← HSZ.out]; exact HLT.out), List.mem_append] at hx
          rcases hx with hx | hx
          · exact HA.out x hx
          · simp only [List.mem_singleton] at hx
            rw [hx, data_at s j HLT.out, HC.out]
            exact HD.out
    · have hlti : ¬ (j : Int) < (s.size : Int) := by omega
      have hkb := kindB_none s (by have h1 := HA.out; rwa [List.take_of_length_le (by rw [← HSZ.out]; omega)] at h1)
      have HKB := Lib.hid hkb
      clear hkb
      go_wp2_with fail
      go_ret3
      exact ⟨_, _, by rw [HKB.out]; rfl, HK.out⟩
end Go.Proofs.Ytnphhibfiklfjaa
