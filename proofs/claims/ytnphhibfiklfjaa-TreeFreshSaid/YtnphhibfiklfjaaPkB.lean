/-
  Merged texts: XSign2, XSameB, XRSign.
-/
import Derived.Test.YtnphhibfiklfjaaSign

import Derived.Lib.Strings

import Derived.Lib.IndexBytes

import Derived.Test.YtnphhibfiklfjaaSameA

import Derived.StillTailTactics

import Derived.BigQuiet

import Derived.Deep.LoopGhost

set_option linter.unusedVariables false

set_option linter.unusedSimpArgs false

/-!
  sign.Word, strings.Cut at one byte, sign.Kind: their walks.
-/
namespace Go.Proofs.Ytnphhibfiklfjaa

open Go.RowKit

theorem Word_any (s : ByteArray) (w : World) (hs : s.size ≤ 140737488351232) : Calls Try.prog 69 #[.string s] w fun e w' => e = .returned (.bool (wordB s.data.toList)) ∧ Keeps (fun _ => False) w w' := by
  have hm := made_any s 16 73 74 #[] #[] smallR wordR w hs (enters_of_func Try.func73 (by kernel_rfl) rfl) (enters_of_func Try.func74 (by kernel_rfl) rfl) (fun r W _ => small_any r W) (fun r W _ => wordr_any r W) (fun _ h => wordR_high h)
  go_enter Try.func69, Try.ntmps69
  go_wp2_with fail
  refine hm.mono ?_
  rintro e w' ⟨rfl, hk⟩
  go_wp2_with fail
  go_ret
  exact ⟨rfl, hk⟩

abbrev dot : ByteArray := ⟨#[46]⟩
theorem IndexByte_any (s : ByteArray) (c : Int) (w : World) : Calls Try.prog 80 #[.string s, .int .u8 c] w fun e w' => e = .returned (.int .i64 (Lib.indexByte s.data.toList c.toNat.toUInt8)) ∧ w = w' := by
  have h : ∀ w, (callFunc 84 #[.string s, .int .u8 c]).run Try.prog w = .ok (.value (.int .i64 (Lib.indexByte s.data.toList c.toNat.toUInt8))) w := fun w => by
    rw [run_callFunc_extern Try.func84 (by kernel_rfl) (by kernel_rfl) (by kernel_rfl) (e := Extern.BytealgIndexByte.indexByte) (by kernel_rfl), Lib.run_indexByteString]
    rfl
  go_enter Try.func80, Try.ntmps80
  go_wp2_with fail
  go_ret
  exact ⟨rfl, rfl⟩
/-- Where the first dot is; -1: there is none. -/
def dotAt (s : ByteArray) : Int := Lib.indexByte s.data.toList 46
theorem dotAt_lt (l : List UInt8) (c : UInt8) : Lib.indexByte l c < l.length ∨ l = [] := by
  induction l with
  | nil => exact .inr rfl
  | cons b l ih =>
    left
    unfold Lib.indexByte
    split
    · simp
    · split
      · simp only [List.length_cons]; omega
      · rcases ih with h | h
        · simp only [List.length_cons]; omega
        · subst h; simp [Lib.indexByte]
theorem dotAt_le (s : ByteArray) (h : 0 ≤ dotAt s) : (dotAt s).toNat < s.size := by
  have h1 : s.size = s.data.toList.length := by simp
  rcases dotAt_lt s.data.toList 46 with h2 | h2
  · unfold dotAt at h ⊢; omega
  · unfold dotAt at h; rw [h2] at h; simp [Lib.indexByte] at h
set_option maxRecDepth 100000 in
theorem Index_any (s : ByteArray) (w : World) (hs : s.size ≤ 140737488351232) : Calls Try.prog 77 #[.string s, .string dot] w fun e w' => e = .returned (.int .i64 (dotAt s)) ∧ w = w' := by
  by_cases hd : s = dot
  · subst hd
    go_enter Try.func77, Try.ntmps77
    go_wp2_with fail
    go_ret
    exact ⟨rfl, rfl⟩
  · have h1 : (([46] : List UInt8) == s.toList) = false := by
      have h2 := txt_ne (Ne.symm hd)
      rwa [show dot.toList = [46] from by rw [ByteArray.toList_eq]] at h2
    have hi := IndexByte_any s 46 w
    go_enter Try.func77, Try.ntmps77
    go_wp2_with fail
    refine hi.mono ?_
    rintro e w' ⟨rfl, rfl⟩
    go_wp2_with fail
    go_ret
    exact ⟨rfl, rfl⟩
/-- What strings.Cut gives at a dot. -/
def cutB (s : ByteArray) : ByteArray × ByteArray × Bool := if 0 ≤ dotAt s then (s.extract 0 (dotAt s).toNat, s.extract ((dotAt s).toNat + 1) s.size, true) else (s, ⟨#[]⟩, false)
set_option maxRecDepth 100000 in
set_option maxHeartbeats 400000 in
theorem Cut_any (s : ByteArray) (w : World) (hs : s.size ≤ 140737488351232) : Calls Try.prog 71 #[.string s, .string dot] w fun e w' => e = .returned (.tuple #[.string (cutB s).1, .string (cutB s).2.1, .bool (cutB s).2.2]) ∧ Keeps (fun _ => False) w w' := by
  have hi := Index_any s w hs
  by_cases h0 : 0 ≤ dotAt s
  · have hlt := dotAt_le s h0
    have hc : cutB s = (s.extract 0 (dotAt s).toNat, s.extract ((dotAt s).toNat + 1) s.size, true) := by simp [cutB, h0]
    rw [hc]
    obtain ⟨m, hm⟩ := Int.eq_ofNat_of_zero_le h0
    rw [hm] at hi hlt ⊢
    simp only [Int.ofNat_eq_natCast, Int.toNat_natCast] at hi hlt ⊢
    clear hc hm h0
    go_enter Try.func71, Try.ntmps71
    go_wp2_with fail
    refine hi.mono ?_
    rintro e w' ⟨rfl, rfl⟩
    go_wp2_with fail
    go_quiet (fail)
    go_wp2_with fail
    go_ret3
    exact ⟨rfl, (Keeps.refl _ _).drewN _⟩
  · have hc : cutB s = (s, ⟨#[]⟩, false) := by simp [cutB, h0]
    rw [hc]
    clear hc
    go_enter Try.func71, Try.ntmps71
    go_wp2_with fail
    refine hi.mono ?_
    rintro e w' ⟨rfl, rfl⟩
    go_wp2_with fail
    go_ret3
    exact ⟨rfl, Keeps.refl _ _⟩
theorem sCut_any (s : ByteArray) (w : World) (hs : s.size ≤ 140737488351232) : Calls Try.prog 68 #[.string s, .string dot] w fun e w' => e = .returned (.tuple #[.string (cutB s).1, .string (cutB s).2.1, .bool (cutB s).2.2]) ∧ Keeps (fun _ => False) w w' := by
  have hc := Cut_any s w hs
  go_enter Try.func68, Try.ntmps68
  go_wp2_with fail
  refine hc.mono ?_
  rintro e w' ⟨rfl, hk⟩
  go_wp2_with fail
  go_ret3
  exact ⟨rfl, hk⟩
theorem kindB_eq (s : ByteArray) : kindB s.data.toList = ((cutB s).2.2 && wordB (cutB s).1.data.toList && wordB (cutB s).2.1.data.toList) := by
  unfold kindB cutB dotAt
  by_cases h0 : 0 ≤ Lib.indexByte s.data.toList 46
  · rw [if_neg (by omega), if_pos h0]
    simp only [Bool.true_and]
    rw [Lib.extract_to_end, Lib.extract_data]
    simp
  · rw [if_pos (by omega), if_neg h0]
    simp
def KindR (s : ByteArray) (w : World) (e : Ending) (w' : World) : Prop := ∃ a b, e = .returned (.tuple #[.string a, .string b, .bool (kindB s.data.toList)]) ∧ Keeps (fun _ => False) w w'
/-- .. and what is told, where it is one. -/
def KindS (s : ByteArray) (w : World) (e : Ending) (w' : World) : Prop := ∃ a b, e = .returned (.tuple #[.string a, .string b, .bool (kindB s.data.toList)]) ∧ (kindB s.data.toList = true → a = (cutB s).1 ∧ b = (cutB s).2.1) ∧ Keeps (fun _ => False) w w'
theorem cutB_size (s : ByteArray) (hs : s.size ≤ 140737488351232) : (cutB s).1.size ≤ 140737488351232 ∧ (cutB s).2.1.size ≤ 140737488351232 := by
  unfold cutB
  split
  · simp only [ByteArray.size_extract]
    omega
  · exact ⟨hs, by show (0 : Nat) ≤ _; omega⟩
set_option maxRecDepth 100000 in
set_option maxHeartbeats 800000 in
theorem Kind_full (s : ByteArray) (w : World) (hs : s.size ≤ 140737488351232) : Calls Try.prog 58 #[.string s] w (KindS s w) := by
  have hc := sCut_any s w hs
  obtain ⟨hz1, hz2⟩ := cutB_size s hs
  have he := kindB_eq s
  obtain ⟨⟨a, b, ok⟩, hcb⟩ : ∃ c, cutB s = c := ⟨_, rfl⟩
  rw [hcb] at hc hz1 hz2 he
  dsimp only at hc hz1 hz2 he
  have HE := Lib.hid he
  have HCB := Lib.hid hcb
  clear hcb he
  have hw1 := fun W => Word_any a W hz1
  have hw2 := fun W => Word_any b W hz2
  obtain ⟨v1, hv1⟩ : ∃ v, wordB a.data.toList = v := ⟨_, rfl⟩
  obtain ⟨v2, hv2⟩ : ∃ v, wordB b.data.toList = v := ⟨_, rfl⟩
  simp only [hv1] at hw1
  simp only [hv2] at hw2
  have HV1 := Lib.hid hv1
  have HV2 := Lib.hid hv2
  clear hv1 hv2
  cases ok with
  | false =>
    go_enter Try.func58, Try.ntmps58
    go_wp2_with fail
    refine hc.mono ?_
    rintro e w1 ⟨rfl, hk1⟩
    go_wp2_with fail
    go_ret3
    exact ⟨_, _, by rw [HE.out]; rfl, fun h => by rw [HE.out] at h; simp at h, hk1⟩
  | true =>
    cases v1 with
    | false =>
      go_enter Try.func58, Try.ntmps58
      go_wp2_with fail
      refine hc.mono ?_
      rintro e w1 ⟨rfl, hk1⟩
      go_wp2_with fail
      refine (hw1 _).mono ?_
      rintro e w2 ⟨rfl, hk2⟩
      go_wp2_with fail
      go_ret3
      exact ⟨_, _, by rw [HE.out, HV1.out]; rfl, fun h => by rw [HE.out, HV1.out] at h; simp at h, hk1.trans hk2⟩
    | true =>
      cases v2
      all_goals
        go_enter Try.func58, Try.ntmps58
        go_wp2_with fail
        refine hc.mono ?_
        rintro e w1 ⟨rfl, hk1⟩
        go_wp2_with fail
        refine (hw1 _).mono ?_
        rintro e w2 ⟨rfl, hk2⟩
        go_wp2_with fail
        refine (hw2 _).mono ?_
        rintro e w3 ⟨rfl, hk3⟩
        go_wp2_with fail
        go_ret3
        exact ⟨_, _, by rw [HE.out, HV1.out, HV2.out]; rfl, fun h => by first | (rw [HE.out, HV1.out, HV2.out] at h; simp at h; done) | (rw [HCB.out]; exact ⟨rfl, rfl⟩), (hk1.trans hk2).trans hk3⟩
theorem Kind_any (s : ByteArray) (w : World) (hs : s.size ≤ 140737488351232) : Calls Try.prog 58 #[.string s] w (KindR s w) := (Kind_full s w hs).mono fun _ _ ⟨a, b, h1, _, h3⟩ => ⟨a, b, h1, h3⟩
end Go.Proofs.Ytnphhibfiklfjaa

/-!
  tree.Size, tree.Same: their walks.
-/
namespace Go.Proofs.Ytnphhibfiklfjaa

open Go.RowKit

theorem Size_any (k : ByteArray) (n : Int) (t : ByteArray) (c : Fo) (cp : Option Addr) (cl cc : Nat) (A : Nat → Prop) (w : World) (h : Tv w A k t c cp cl cc) :
   Calls Try.prog 9 #[tv k n t cp cl cc] w fun e w' => e = .returned (.tuple #[.int .i64 (sizeR k t c).1, .int .i64 (sizeR k t c).2.1, .int .i64 (sizeR k t c).2.2]) ∧ Keeps (fun _ => False) w w' := by
  have hn := (h.boxed (k := k) (n := n) 24).top
  have hK : Keeps (fun _ => False) w (w.alloc (.cells (four k n t cp cl cc) 24)) := (Keeps.refl _ w).alloc _
  have hw := walk_any _ _ _ _ _ k n t c w.heap.size 0 cp cl cc [] _ (see_nothing _) (by simp) hn trivial rfl
  obtain ⟨⟨q2, bb, l2⟩, hr⟩ : ∃ r, wlk1 k t c 1 ⟨0, 0, 0⟩ = r := ⟨_, rfl⟩
  rw [hr] at hw
  have hs : sizeR k t c = if bb then (q2.nodes, q2.depth, q2.bytes) else (1025, 65, 16385) := by
    unfold sizeR big
    rw [hr]
    cases bb <;> rfl
  rw [hs]
  clear hs hr hn
  go_enter Try.func9, Try.ntmps9
  go_wp2_with fail
  refine hw.mono ?_
  clear hw
  rintro e W ⟨rfl, _, hK2⟩
  cases bb
  all_goals
    go_wp2_with fail
    go_ret3
    exact ⟨rfl, hK.trans hK2⟩

set_option maxHeartbeats 400000 in
theorem Same_any (k k' : ByteArray) (n n' : Int) (t t' : ByteArray) (c c' : Fo) (cp cp' : Option Addr) (cl cc cl' cc' : Nat) (A A' : Nat → Prop) (w : World) (h : Tv w A k t c cp cl cc) (h' : Tv w A' k' t' c' cp' cl' cc') :
   Calls Try.prog 12 #[tv k n t cp cl cc, tv k' n' t' cp' cl' cc'] w fun e w' => e = .returned (.bool (!big k t c && !big k' t' c' && eqB (one k n t c) (one k' n' t' c'))) ∧ Keeps (fun _ => False) w w' := by
  obtain ⟨w1, hw1⟩ : ∃ w1, w1 = w.alloc (.cells (four k n t cp cl cc) 24) := ⟨_, rfl⟩
  obtain ⟨w2, hw2⟩ : ∃ w2, w2 = w1.alloc (.cells (four k' n' t' cp' cl' cc') 24) := ⟨_, rfl⟩
  have hK1 : Keeps (fun _ => False) w w1 := by rw [hw1]; exact (Keeps.refl _ w).alloc _
  have hK2 : Keeps (fun _ => False) w1 w2 := by rw [hw2]; exact (Keeps.refl _ w1).alloc _
  have hs1 : w1.heap.size = w.heap.size + 1 := by rw [hw1]; simp
  have hs2 : w2.heap.size = w.heap.size + 1 + 1 := by rw [hw2]; simp [hs1]
  have hn1 : NodeAt w1 A w.heap.size 0 k n t c cp cl cc := by rw [hw1]; exact h.boxed _
  have hn : NodeAt w2 A w.heap.size 0 k n t c cp cl cc := hn1.keeps hK2 (fun _ _ h => h) (by omega) (fun h => h)
  have hn' : NodeAt w2 A' (w.heap.size + 1) 0 k' n' t' c' cp' cl' cc' := by rw [hw2, ← hs1]; exact (h'.keeps hK1 (fun _ _ h => h)).boxed _
  have hg := great_any k n t c w.heap.size 0 cp cl cc w2 (by omega) hn.top
  have hg' : ∀ W, Keeps (fun _ => False) w2 W → Calls Try.prog 35 #[.pointer (some ⟨w.heap.size + 1, 0, none⟩)] W fun e w' => e = .returned (.bool (big k' t' c')) ∧ Keeps (fun _ => False) W w' := fun W hW =>
    great_any k' n' t' c' (w.heap.size + 1) 0 cp' cl' cc' W (by have := hW.size; omega) (hn'.keeps hW (fun _ _ h => h) (by omega) (fun h => h)).top
  have hsm : ∀ W, Keeps (fun _ => False) w2 W → Calls Try.prog 42 #[.pointer (some ⟨w.heap.size, 0, none⟩), .pointer (some ⟨w.heap.size + 1, 0, none⟩)] W fun e w' => e = .returned (.bool (eqB (one k n t c) (one k' n' t' c'))) ∧ Keeps (fun _ => False) W w' := fun W hW =>
    (same_any (c.nodes + 1) k k' n n' t t' c c' A A' w.heap.size 0 (w.heap.size + 1) 0 cp cp' cl cc cl' cc' W (by omega) (hn.keeps hW (fun _ _ h => h) (by omega) (fun h => h)) (hn'.keeps hW (fun _ _ h => h) (by omega) (fun h => h))).mono fun e w' ⟨h1, m, h2⟩ => ⟨h1, by rw [h2]; exact (Keeps.refl _ W).drewN m⟩
  have HW := Lib.hid hw2
  have HW1 := Lib.hid hw1
  have hK := hK1.trans hK2
  clear hw2 hw1 hn hn' hn1
  obtain ⟨g, hgg⟩ : ∃ g, big k t c = g := ⟨_, rfl⟩
  obtain ⟨g', hgg'⟩ : ∃ g, big k' t' c' = g := ⟨_, rfl⟩
  obtain ⟨s, hss⟩ : ∃ g, eqB (one k n t c) (one k' n' t' c') = g := ⟨_, rfl⟩
  rw [hgg] at hg ⊢
  rw [hss] at hsm ⊢
  simp only [hgg'] at hg' ⊢
  clear hgg hgg' hss
  go_enter Try.func12, Try.ntmps12
  go_wp2_with fail
  rw [← HW1.out, ← HW.out]
  refine hg.mono ?_
  clear hg
  rintro e W1 ⟨rfl, hk1⟩
  cases g with
  | true =>
    go_wp2_with fail
    go_ret
    exact ⟨rfl, hK.trans hk1⟩
  | false =>
    go_wp2_with fail
    refine (hg' _ hk1).mono ?_
    clear hg'
    rintro e W2 ⟨rfl, hk2⟩
    cases g' with
    | true =>
      go_wp2_with fail
      go_ret
      exact ⟨rfl, (hK.trans hk1).trans hk2⟩
    | false =>
      go_wp2_with fail
      refine (hsm _ (hk1.trans hk2)).mono ?_
      clear hsm
      rintro e W3 ⟨rfl, hk3⟩
      go_wp2_with fail
      go_ret
      exact ⟨by simp, ((hK.trans hk1).trans hk2).trans hk3⟩
end Go.Proofs.Ytnphhibfiklfjaa

/-!
  espalierref3.small, digit, Word, Kind: their walks.
-/
namespace Go.Proofs.Ytnphhibfiklfjaa

open Go.RowKit

theorem rsmall_any (r : Int) (w : World) : Calls Try.prog 78 #[.int .u8 r] w fun e w' => e = .returned (.bool (smallR r)) ∧ w = w' := by
  by_cases h : 97 ≤ r
  all_goals
    go_enter Try.func78, Try.ntmps78
    go_wp2_with fail
    go_ret
    exact ⟨by first | (simp [smallR, h]; done) | (simp [smallR, h]; omega), rfl⟩
theorem rdigit_any (r : Int) (w : World) : Calls Try.prog 79 #[.int .u8 r] w fun e w' => e = .returned (.bool (digitR r)) ∧ w = w' := by
  by_cases h : 48 ≤ r
  all_goals
    go_enter Try.func79, Try.ntmps79
    go_wp2_with fail
    go_ret
    exact ⟨by first | (simp [digitR, h]; done) | (simp [digitR, h]; omega), rfl⟩
theorem byteAt (s : ByteArray) (j : Nat) (h : j < s.size) (w : World) : (Instr.index 9 (.string s) (.int .i64 (j : Int))).run Try.prog w = .ok (.int .u8 ((s[j]'h).toNat : Int)) w := by
  rw [run_index_string w 9 s .i64 _ Try.underlying9, dif_pos ⟨by omega, by omega⟩]
  have e : ((j : Int)).toNat = j := by omega
  simp only [e]
theorem wordB_long (s : ByteArray) (h : ¬ (1 ≤ s.size ∧ s.size ≤ 16)) : wordB s.data.toList = false := by
  have hsz : s.size = s.data.toList.length := by simp
  unfold wordB madeB
  cases hl : s.data.toList with
  | nil => rfl
  | cons c r =>
    have h3 : s.size = (c :: r).length := by rw [hsz, hl]
    have h2 : ¬ (((c :: r).length : Int) ≤ 16) := by
      have h4 : 1 ≤ (c :: r).length := by simp
      omega
    show (decide (((c :: r).length : Int) ≤ 16) && smallR c.toNat && (c :: r).all fun c => wordR c.toNat) = false
    rw [decide_eq_false h2]
    simp
theorem wordB_mid (s : ByteArray) (h : 0 < s.size) (h2 : s.size ≤ 16) : wordB s.data.toList = (smallR (s[0]'h).toNat && s.data.toList.all fun c => wordR c.toNat) := by
  have hsz : s.size = s.data.toList.length := by simp
  have h0 : s.data.toList[0]'(by simpa using h) = s[0]'h := data_at s 0 h
  unfold wordB madeB
  cases hl : s.data.toList with
  | nil =>
    have h5 : s.size = 0 := by rw [hsz, hl]; rfl
    omega
  | cons c r =>
    have h3 : c = s[0]'h := by rw [← h0]; simp [hl]
    have h4 : ((c :: r).length : Int) ≤ 16 := by rw [← hl]; omega
    show (decide (((c :: r).length : Int) ≤ 16) && smallR c.toNat && (c :: r).all fun c => wordR c.toNat) = _
    rw [decide_eq_true h4, h3]
    simp
set_option maxRecDepth 100000 in
set_option maxHeartbeats 800000 in
theorem rWord_any (s : ByteArray) (w : World) (hs : s.size ≤ 140737488351232) : Calls Try.prog 76 #[.string s] w fun e w' => e = .returned (.bool (wordB s.data.toList)) ∧ Keeps (fun _ => False) w w' := by
  by_cases h1 : s.size < 1
  · have hf := wordB_long s (by omega)
    have h1i : (s.size : Int) < 1 := by omega
    rw [hf]
    clear hf h1
    go_enter Try.func76, Try.ntmps76
    go_wp2_with fail
    go_ret
    exact ⟨rfl, Keeps.refl _ _⟩
  · have h1i : ¬ (s.size : Int) < 1 := by omega
    by_cases h2 : 16 < s.size
    · have hf := wordB_long s (by omega)
      have h2i : (16 : Int) < (s.size : Int) := by omega
      rw [hf]
      clear hf h1
      go_enter Try.func76, Try.ntmps76
      go_wp2_with fail
      go_ret
      exact ⟨rfl, Keeps.refl _ _⟩
    · have h2i : ¬ (16 : Int) < (s.size : Int) := by omega
      have hpos : 0 < s.size := by omega
      have hm := wordB_mid s hpos (by omega)
      have hsm := fun W => rsmall_any (s[0]'hpos).toNat W
      obtain ⟨v0, hv0⟩ : ∃ v, smallR (s[0]'hpos).toNat = v := ⟨_, rfl⟩
      simp only [hv0] at hsm hm
      obtain ⟨va, hva⟩ : ∃ v, (s.data.toList.all fun c => wordR c.toNat) = v := ⟨_, rfl⟩
      rw [hva] at hm
      have HVA := Lib.hid hva
      have hsz : s.size = s.data.toList.length := by simp
      have HSZ := Lib.hid hsz
      rw [hm]
      clear hm hv0 hva hsz h1 h2
      cases v0 with
      | false =>
        go_enter Try.func76, Try.ntmps76
        go_wp2_with fail
        refine (hsm _).mono ?_
        rintro e w' ⟨rfl, rfl⟩
        go_wp2_with fail
        go_ret
        exact ⟨rfl, Keeps.refl _ _⟩
      | true =>
        go_enter Try.func76, Try.ntmps76
        go_wp2_with fail
        refine (hsm _).mono ?_
        rintro e w' ⟨rfl, rfl⟩
        clear hsm h1i h2i
        go_wp2_with fail
        go_loopg [3] s.size (fun m i W => ∃ j : Nat, j + m = s.size ∧ i = .int .i64 j ∧ ((s.data.toList.take j).all fun c => wordR c.toNat) = true ∧ Keeps (fun _ => False) w W)
        case atStart => exact ⟨0, by omega, rfl, rfl, Keeps.refl _ _⟩
        case round =>
          obtain ⟨j, hjm, rfl, hall, hk⟩ := hrel
          have HM := Lib.hid hjm
          have HA := Lib.hid hall
          have HK := Lib.hid hk
          clear hjm hall hk
          by_cases hlt : j < s.size
          · have hlti : (j : Int) < (s.size : Int) := by omega
            have hz := fun W => byteAt s j hlt W
            have ht := all_take_succ (l := s.data.toList) (p := fun c => wordR c.toNat) (k := j) (by rw [← HSZ.out]; exact hlt)
            rw [HA.out, data_at s j hlt, Bool.true_and] at ht
            have hall : (s.data.toList.all fun c => wordR c.toNat) = true → wordR (s[j]'hlt).toNat = true := fun h => by
              rw [List.all_eq_true] at h
              exact h _ (List.getElem_mem (l := s.data.toList) (by rw [← HSZ.out]; exact hlt))
            obtain ⟨c, hc⟩ : ∃ c, s[j]'hlt = c := ⟨_, rfl⟩
            simp only [hc] at hz ht hall
            have hsm := fun W => rsmall_any c.toNat W
            have hdg := fun W => rdigit_any c.toNat W
            obtain ⟨v1, hv1⟩ : ∃ v, smallR c.toNat = v := ⟨_, rfl⟩
            obtain ⟨v2, hv2⟩ : ∃ v, digitR c.toNat = v := ⟨_, rfl⟩
            have hw : wordR c.toNat = (v1 || v2) := by simp only [wordR, hv1, hv2]
            simp only [hv1] at hsm
            simp only [hv2] at hdg
            rw [hw] at ht hall
            have HT := Lib.hid ht
            have HAL := Lib.hid hall
            clear hc hv1 hv2 hw ht hall hlt
            cases v1 with
            | true =>
              go_wp2_with fail
              refine (hsm _).mono ?_
              rintro e w' ⟨rfl, rfl⟩
              go_wp2_with fail
              go_roundg (gk - 1)
              case measure => have := HM.out; omega
              case rel => exact ⟨j + 1, by have := HM.out; omega, by go_num, by rw [HT.out]; rfl, HK.out⟩
            | false =>
              cases v2 with
              | true =>
                go_wp2_with fail
                refine (hsm _).mono ?_
                rintro e w' ⟨rfl, rfl⟩
                go_wp2_with fail
                refine (hdg _).mono ?_
                rintro e w' ⟨rfl, rfl⟩
                go_wp2_with fail
                go_roundg (gk - 1)
                case measure => have := HM.out; omega
                case rel => exact ⟨j + 1, by have := HM.out; omega, by go_num, by rw [HT.out]; rfl, HK.out⟩
              | false =>
                go_wp2_with fail
                refine (hsm _).mono ?_
                rintro e w' ⟨rfl, rfl⟩
                go_wp2_with fail
                refine (hdg _).mono ?_
                rintro e w' ⟨rfl, rfl⟩
                go_wp2_with fail
                go_ret
                have hf : va = false := by
                  cases va with
                  | false => rfl
                  | true => exact absurd (HAL.out HVA.out) (by simp)
                exact ⟨by rw [hf]; rfl, HK.out⟩
          · have hlti : ¬ (j : Int) < (s.size : Int) := by omega
            have hall : (s.data.toList.all fun c => wordR c.toNat) = true := by
              have h1 := HA.out
              rwa [List.take_of_length_le (by rw [← HSZ.out]; omega)] at h1
            have HB := Lib.hid (HVA.out.symm.trans hall)
            clear hall
            go_wp2_with fail
            go_ret
            exact ⟨by rw [HB.out]; rfl, HK.out⟩
theorem idx_none : ∀ (l : List UInt8), (∀ c ∈ l, c ≠ 46) → Lib.indexByte l 46 = -1
  | [], _ => by simp [Lib.indexByte]
  | b :: l, h => by
    have h1 := idx_none l (fun c hc => h c (List.mem_cons_of_mem _ hc))
    have h2 := h b (List.mem_cons_self ..)
    unfold Lib.indexByte
    rw [if_neg (by simpa using h2), h1]
    rfl
theorem idx_at : ∀ (l : List UInt8) (j : Nat) (hj : j < l.length), (∀ c ∈ l.take j, c ≠ 46) → l[j] = 46 → Lib.indexByte l 46 = (j : Int)
  | b :: l, 0, _, _, h => by
    have h : b = 46 := h
    unfold Lib.indexByte
    rw [if_pos (by simpa using h)]
    rfl
  | b :: l, j + 1, hj, h, h1 => by
    have h2 := idx_at l j (by simpa using hj) (fun c hc => h c (by simp [hc])) (by simpa using h1)
    have h3 := h b (by simp)
    unfold Lib.indexByte
    rw [if_neg (by simpa using h3), h2, if_neg (by rw [beq_iff_eq]; omega)]
    omega
theorem kindB_none (s : ByteArray) (h : ∀ c ∈ s.data.toList, c ≠ 46) : kindB s.data.toList = false := by
  unfold kindB
  rw [idx_none _ h]
  rfl
theorem kindB_at (s : ByteArray) (j : Nat) (hj : j < s.size) (h : ∀ c ∈ s.data.toList.take j, c ≠ 46) (h1 : s[j]'hj = 46) :
    kindB s.data.toList = (wordB (s.extract 0 j).data.toList && wordB (s.extract (j + 1) s.size).data.toList) := by
  unfold kindB
  rw [idx_at s.data.toList j (by simpa using hj) h h1, if_neg (by omega)]
  rw [Lib.extract_to_end, Lib.extract_data]
  simp

theorem cutB_at (s : ByteArray) (j : Nat) (hj : j < s.size) (h : ∀ c ∈ s.data.toList.take j, c ≠ 46) (h1 : s[j]'hj = 46) : cutB s = (s.extract 0 j, s.extract (j + 1) s.size, true) := by
  have : dotAt s = (j : Int) := idx_at s.data.toList j (by simpa using hj) h h1
  unfold cutB
  rw [this, if_pos (by omega)]
  rfl
set_option maxRecDepth 100000 in
set_option maxHeartbeats 800000 in
theorem rKind_full (s : ByteArray) (w : World) (hs : s.size ≤ 140737488351232) : Calls Try.prog 70 #[.string s] w (KindS s w) := by
  have HS := Lib.hid hs
  clear hs
  go_enter Try.func70, Try.ntmps70
  go_wp2_with fail
  go_loopg [5] s.size (fun m i W => ∃ j : Nat, j + m = s.size ∧ i = .int .i64 j ∧ (∀ c ∈ s.data.toList.take j, c ≠ 46) ∧ Keeps (fun _ => False) w W)
  case atStart => exact ⟨0, by omega, rfl, by simp, Keeps.refl _ _⟩
  case round =>
    obtain ⟨j, hjm, rfl, hall, hk⟩ := hrel
    have HM := Lib.hid hjm
    have HA := Lib.hid hall
    have HK := Lib.hid hk
    clear hjm hall hk
    have hsz : s.size = s.data.toList.length := by simp
    have HSZ := Lib.hid hsz
    clear hsz
    by_cases hlt : j < s.size
    · have hlti : (j : Int) < (s.size : Int) := by omega
      have hle0 : (0 : Int) ≤ (j : Int) := Int.natCast_nonneg _
      have hj1 : (j : Int) + 1 ≤ (s.size : Int) := by omega
      have hs := HS.out
      have hsi : (s.size : Int) ≤ 140737488351232 := by omega
      have hz := fun W => byteAt s j hlt W
      have HLT := Lib.hid hlt
      obtain ⟨c, hc⟩ : ∃ c, s[j]'hlt = c := ⟨_, rfl⟩
      simp only [hc] at hz
      have HC : Hid (s[j]'HLT.out = c) := hc
      clear hc hlt
      by_cases hdot : c = 46
      · have hkb := kindB_at s j HLT.out HA.out (HC.out.trans hdot)
        have hz1 : (s.extract 0 j).size ≤ 140737488351232 := by have := HS.out; simp only [ByteArray.size_extract]; omega
        have hz2 : (s.extract (j + 1) s.size).size ≤ 140737488351232 := by have := HS.out; simp only [ByteArray.size_extract]; omega
        have hw1 := fun W => rWord_any (s.extract 0 j) W hz1
        have hw2 := fun W => rWord_any (s.extract (j + 1) s.size) W hz2
        obtain ⟨v1, hv1⟩ : ∃ v, wordB (s.extract 0 j).data.toList = v := ⟨_, rfl⟩
        obtain ⟨v2, hv2⟩ : ∃ v, wordB (s.extract (j + 1) s.size).data.toList = v := ⟨_, rfl⟩
        simp only [hv1] at hw1
        simp only [hv2] at hw2
        rw [hv1, hv2] at hkb
        have HKB := Lib.hid hkb
        have HCB := Lib.hid (cutB_at s j HLT.out HA.out (HC.out.trans hdot))
        subst hdot
        clear hv1 hv2 hkb hz1 hz2
        cases v1 with
        | false =>
          go_wp2_with fail
          refine (hw1 _).mono ?_
          rintro e w1 ⟨rfl, hk1⟩
          go_wp2_with fail
          go_ret3
          exact ⟨_, _, by rw [HKB.out]; rfl, fun h => by rw [HKB.out] at h; simp at h, HK.out.trans hk1⟩
        | true =>
          go_wp2_with fail
          refine (hw1 _).mono ?_
          rintro e w1 ⟨rfl, hk1⟩
          cases v2 with
          | false =>
            go_wp2_with fail
            refine (hw2 _).mono ?_
            rintro e w2 ⟨rfl, hk2⟩
            go_wp2_with fail
            go_ret3
            exact ⟨_, _, by rw [HKB.out]; rfl, fun h => by rw [HKB.out] at h; simp at h, (HK.out.trans hk1).trans hk2⟩
          | true =>
            go_wp2_with fail
            refine (hw2 _).mono ?_
            rintro e w2 ⟨rfl, hk2⟩
            go_wp2_with fail
            go_quiet (fail)
            go_wp2_with fail
            go_ret3
            exact ⟨_, _, by rw [HKB.out]; rfl, fun _ => by rw [HCB.out]; exact ⟨rfl, rfl⟩, ((HK.out.trans hk1).trans hk2).drewN _⟩
      · have hne : ((c.toNat : Int) == 46) = false := by
          rw [beq_eq_false_iff_ne]
          intro he
          apply hdot
          apply UInt8.toNat_inj.1
          show c.toNat = 46
          omega
        have HD := Lib.hid hdot
        clear hdot
        go_wp2_with fail
        go_roundg (gk - 1)
        case measure => have := HM.out; omega
        case rel =>
          refine ⟨j + 1, by have := HM.out; omega, by go_num, ?_, HK.out⟩
          intro x hx
          rw [List.take_succ_eq_append_getElem (by rw [← HSZ.out]; exact HLT.out), List.mem_append] at hx
          rcases hx with hx | hx
          · exact HA.out x hx
          · simp only [List.mem_singleton] at hx
            rw [hx, data_at s j HLT.out, HC.out]
            exact HD.out
    · have hlti : ¬ (j : Int) < (s.size : Int) := by omega
      have hkb := kindB_none s (by have h1 := HA.out; rwa [List.take_of_length_le (by rw [← HSZ.out]; omega)] at h1)
      have HKB := Lib.hid hkb
      clear hkb
      go_wp2_with fail
      go_ret3
      exact ⟨_, _, by rw [HKB.out]; rfl, fun h => by rw [HKB.out] at h; simp at h, HK.out⟩
theorem rKind_any (s : ByteArray) (w : World) (hs : s.size ≤ 140737488351232) : Calls Try.prog 70 #[.string s] w (KindR s w) := (rKind_full s w hs).mono fun _ _ ⟨a, b, h1, _, h3⟩ => ⟨a, b, h1, h3⟩
end Go.Proofs.Ytnphhibfiklfjaa
