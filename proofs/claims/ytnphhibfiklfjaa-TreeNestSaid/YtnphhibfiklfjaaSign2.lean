/-
  sign.Word, strings.Cut at one byte, sign.Kind: their walks.
-/
import Derived.Test.YtnphhibfiklfjaaSign
import Derived.Lib.Strings
import Derived.Lib.IndexBytes
set_option linter.unusedVariables false
set_option linter.unusedSimpArgs false
namespace Go.Proofs.Ytnphhibfiklfjaa
open Go.RowKit

theorem Word_any (s : ByteArray) (w : World) (hs : s.size ≤ 140737488351232) : Calls Try.prog 69 #[.string s] w fun e w' => e = .returned (.bool (wordB s.data.toList)) ∧ Keeps (fun _ => False) w w' := by
  have hm := made_any s 16 73 74 #[] #[] smallR wordR w hs (enters_of_func Try.func73 (by kernel_rfl) rfl) (enters_of_func Try.func74 (by kernel_rfl) rfl) (fun r W _ => small_any r W) (fun r W _ => wordr_any r W) (fun _ h => wordR_high h)
  go_enter Try.func69, Try.ntmps69
  go_wp2_with fail
  refine hm.mono ?_
  rintro e w' ⟨rfl, hk⟩
  go_wp2_with fail
  go_ret
  exact ⟨rfl, hk⟩

abbrev dot : ByteArray := ⟨#[46]⟩
theorem IndexByte_any (s : ByteArray) (c : Int) (w : World) : Calls Try.prog 80 #[.string s, .int .u8 c] w fun e w' => e = .returned (.int .i64 (Lib.indexByte s.data.toList c.toNat.toUInt8)) ∧ w = w' := by
  have h : ∀ w, (callFunc 84 #[.string s, .int .u8 c]).run Try.prog w = .ok (.value (.int .i64 (Lib.indexByte s.data.toList c.toNat.toUInt8))) w := fun w => by
    rw [run_callFunc_extern Try.func84 (by kernel_rfl) (by kernel_rfl) (by kernel_rfl) (e := Extern.BytealgIndexByte.indexByte) (by kernel_rfl), Lib.run_indexByteString]
    rfl
  go_enter Try.func80, Try.ntmps80
  go_wp2_with fail
  go_ret
  exact ⟨rfl, rfl⟩
/-- Where the first dot is; -1: there is none. -/
def dotAt (s : ByteArray) : Int := Lib.indexByte s.data.toList 46
theorem dotAt_lt (l : List UInt8) (c : UInt8) : Lib.indexByte l c < l.length ∨ l = [] := by
  induction l with
  | nil => exact .inr rfl
  | cons b l ih =>
    left
    unfold Lib.indexByte
    split
    · simp
    · split
      · simp only [List.length_cons]; omega
      · rcases ih with h | h
        · simp only [List.length_cons]; omega
        · subst h; simp [Lib.indexByte]
theorem dotAt_le (s : ByteArray) (h : 0 ≤ dotAt s) : (dotAt s).toNat < s.size := by
  have h1 : s.size = s.data.toList.length := by simp
  rcases dotAt_lt s.data.toList 46 with h2 | h2
  · unfold dotAt at h ⊢; omega
  · unfold dotAt at h; rw [h2] at h; simp [Lib.indexByte] at h
set_option maxRecDepth 100000 in
theorem Index_any (s : ByteArray) (w : World) (hs : s.size ≤ 140737488351232) : Calls Try.prog 77 #[.string s, .string dot] w fun e w' => e = .returned (.int .i64 (dotAt s)) ∧ w = w' := by
  by_cases hd : s = dot
  · subst hd
    go_enter Try.func77, Try.ntmps77
    go_wp2_with fail
    go_ret
    exact ⟨rfl, rfl⟩
  · have h1 : (([46] : List UInt8) == s.toList) = false := by
      have h2 := txt_ne (Ne.symm hd)
      rwa [show dot.toList = [46] from by rw [ByteArray.toList_eq]] at h2
    have hi := IndexByte_any s 46 w
    go_enter Try.func77, Try.ntmps77
    go_wp2_with fail
    refine hi.mono ?_
    rintro e w' ⟨rfl, rfl⟩
    go_wp2_with fail
    go_ret
    exact ⟨rfl, rfl⟩
/-- What strings.Cut gives at a dot. -/
def cutB (s : ByteArray) : ByteArray × ByteArray × Bool := if 0 ≤ dotAt s then (s.extract 0 (dotAt s).toNat, s.extract ((dotAt s).toNat + 1) s.size, true) else (s, ⟨#[]⟩, false)
set_option maxRecDepth 100000 in
set_option maxHeartbeats 400000 in
theorem Cut_any (s : ByteArray) (w : World) (hs : s.size ≤ 140737488351232) : Calls Try.prog 71 #[.string s, .string dot] w fun e w' => e = .returned (.tuple #[.string (cutB s).1, .string (cutB s).2.1, .bool (cutB s).2.2]) ∧ Keeps (fun _ => False) w w' := by
  have hi := Index_any s w hs
  by_cases h0 : 0 ≤ dotAt s
  · have hlt := dotAt_le s h0
    have hc : cutB s = (s.extract 0 (dotAt s).toNat, s.extract ((dotAt s).toNat + 1) s.size, true) := by simp [cutB, h0]
    rw [hc]
    obtain ⟨m, hm⟩ := Int.eq_ofNat_of_zero_le h0
    rw [hm] at hi hlt ⊢
    simp only [Int.ofNat_eq_natCast, Int.toNat_natCast] at hi hlt ⊢
    clear hc hm h0
    go_enter Try.func71, Try.ntmps71
    go_wp2_with fail
    refine hi.mono ?_
    rintro e w' ⟨rfl, rfl⟩
    go_wp2_with fail
    go_quiet (fail)
    go_wp2_with fail
    go_ret3
    exact ⟨rfl, (Keeps.refl _ _).drewN _⟩
  · have hc : cutB s = (s, ⟨#[]⟩, false) := by simp [cutB, h0]
    rw [hc]
    clear hc
    go_enter Try.func71, Try.ntmps71
    go_wp2_with fail
    refine hi.mono ?_
    rintro e w' ⟨rfl, rfl⟩
    go_wp2_with fail
    go_ret3
    exact ⟨rfl, Keeps.refl _ _⟩
theorem sCut_any (s : ByteArray) (w : World) (hs : s.size ≤ 140737488351232) : Calls Try.prog 68 #[.string s, .string dot] w fun e w' => e = .returned (.tuple #[.string (cutB s).1, .string (cutB s).2.1, .bool (cutB s).2.2]) ∧ Keeps (fun _ => False) w w' := by
  have hc := Cut_any s w hs
  go_enter Try.func68, Try.ntmps68
  go_wp2_with fail
  refine hc.mono ?_
  rintro e w' ⟨rfl, hk⟩
  go_wp2_with fail
  go_ret3
  exact ⟨rfl, hk⟩
theorem kindB_eq (s : ByteArray) : kindB s.data.toList = ((cutB s).2.2 && wordB (cutB s).1.data.toList && wordB (cutB s).2.1.data.toList) := by
  unfold kindB cutB dotAt
  by_cases h0 : 0 ≤ Lib.indexByte s.data.toList 46
  · rw [if_neg (by omega), if_pos h0]
    simp only [Bool.true_and]
    rw [Lib.extract_to_end, Lib.extract_data]
    simp
  · rw [if_pos (by omega), if_neg h0]
    simp
def KindR (s : ByteArray) (w : World) (e : Ending) (w' : World) : Prop := ∃ a b, e = .returned (.tuple #[.string a, .string b, .bool (kindB s.data.toList)]) ∧ Keeps (fun _ => False) w w'
theorem cutB_size (s : ByteArray) (hs : s.size ≤ 140737488351232) : (cutB s).1.size ≤ 140737488351232 ∧ (cutB s).2.1.size ≤ 140737488351232 := by
  unfold cutB
  split
  · simp only [ByteArray.size_extract]
    omega
  · exact ⟨hs, by show (0 : Nat) ≤ _; omega⟩
set_option maxRecDepth 100000 in
set_option maxHeartbeats 800000 in
theorem Kind_any (s : ByteArray) (w : World) (hs : s.size ≤ 140737488351232) : Calls Try.prog 58 #[.string s] w (KindR s w) := by
  have hc := sCut_any s w hs
  obtain ⟨hz1, hz2⟩ := cutB_size s hs
  have he := kindB_eq s
  obtain ⟨⟨a, b, ok⟩, hcb⟩ : ∃ c, cutB s = c := ⟨_, rfl⟩
  rw [hcb] at hc hz1 hz2 he
  dsimp only at hc hz1 hz2 he
  have HE := Lib.hid he
  clear hcb he
  have hw1 := fun W => Word_any a W hz1
  have hw2 := fun W => Word_any b W hz2
  obtain ⟨v1, hv1⟩ : ∃ v, wordB a.data.toList = v := ⟨_, rfl⟩
  obtain ⟨v2, hv2⟩ : ∃ v, wordB b.data.toList = v := ⟨_, rfl⟩
  simp only [hv1] at hw1
  simp only [hv2] at hw2
  have HV1 := Lib.hid hv1
  have HV2 := Lib.hid hv2
  clear hv1 hv2
  cases ok with
  | false =>
    go_enter Try.func58, Try.ntmps58
    go_wp2_with fail
    refine hc.mono ?_
    rintro e w1 ⟨rfl, hk1⟩
    go_wp2_with fail
    go_ret3
    exact ⟨_, _, by rw [HE.out]; rfl, hk1⟩
  | true =>
    cases v1 with
    | false =>
      go_enter Try.func58, Try.ntmps58
      go_wp2_with fail
      refine hc.mono ?_
      rintro e w1 ⟨rfl, hk1⟩
      go_wp2_with fail
      refine (hw1 _).mono ?_
      rintro e w2 ⟨rfl, hk2⟩
      go_wp2_with fail
      go_ret3
      exact ⟨_, _, by rw [HE.out, HV1.out]; rfl, hk1.trans hk2⟩
    | true =>
      cases v2
      all_goals
        go_enter Try.func58, Try.ntmps58
        go_wp2_with fail
        refine hc.mono ?_
        rintro e w1 ⟨rfl, hk1⟩
        go_wp2_with fail
        refine (hw1 _).mono ?_
        rintro e w2 ⟨rfl, hk2⟩
        go_wp2_with fail
        refine (hw2 _).mono ?_
        rintro e w3 ⟨rfl, hk3⟩
        go_wp2_with fail
        go_ret3
        exact ⟨_, _, by rw [HE.out, HV1.out, HV2.out]; rfl, (hk1.trans hk2).trans hk3⟩
end Go.Proofs.Ytnphhibfiklfjaa
