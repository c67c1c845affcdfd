/-
  espalierlaw4.Twin once more: the list of kids lies in a block that may be written.
-/
import Derived.Test.YtnphhibfiklfjaaTwins

set_option linter.unusedVariables false

set_option linter.unusedSimpArgs false

namespace Go.Proofs.Ytnphhibfiklfjaa

open Go.RowKit

def TwinM2 (k : ByteArray) (n : Int) (t : ByteArray) (c : Fo) (w : World) (e : Ending) (w' : World) : Prop :=
  ∃ cp cl cc, e = .returned (tv k n t cp cl cc) ∧ Tv w' (fun b => w.heap.size ≤ b ∧ b < w'.heap.size) k t c cp cl cc ∧ MarkT w' (fun b => w.heap.size ≤ b ∧ b < w'.heap.size) c cp cl cc ∧ Keeps (fun _ => False) w w' ∧
    ∀ a, cp = some a → ∃ g, a = ⟨g, 0, none⟩ ∧ ∃ cur, w'.heap[g]? = some (.cells cur T (0, 0)) ∧ cl * 4 ≤ cur.size
set_option maxRecDepth 100000 in
set_option maxHeartbeats 1600000 in
theorem Twin2_any (N : Nat) (hN1 : N + 1 ≤ 100000) (k : ByteArray) (n : Int) (t : ByteArray) (c : Fo) (A : Nat → Prop) (cp : Option Addr) (cl cc : Nat) (w : World) (hn : c.nodes < N + 1) (h : Tv w A k t c cp cl cc) :
   Calls Try.prog 21 #[tv k n t cp cl cc] w (TwinM2 k n t c w) := by
  have ih := Twin_any N
  obtain ⟨i0, hi0, hz0, hz1, hz2⟩ := info_parts Try.treeInfo
  obtain ⟨w1, hw1⟩ : ∃ w1, w1 = w.alloc (.cells (four k n t cp cl cc) T) := ⟨_, rfl⟩
  obtain ⟨w2, hw2⟩ : ∃ w2, w2 = w1.alloc (.cells (four e0 0 e0 none 0 0) T) := ⟨_, rfl⟩
  have hK1 : Keeps (fun _ => False) w w1 := by rw [hw1]; exact (Keeps.refl _ w).alloc _
  have hK2 : Keeps (fun _ => False) w1 w2 := by rw [hw2]; exact (Keeps.refl _ w1).alloc _
  have hs1 : w1.heap.size = w.heap.size + 1 := by rw [hw1]; simp
  have hs2 : w2.heap.size = w.heap.size + 2 := by rw [hw2]; simp [hs1]
  have hb1 : w1.heap[w.heap.size]? = some (.cells (four k n t cp cl cc) T (0, 0)) := by rw [hw1]; exact heap_alloc_new _ _
  have hb2 := hK2.heap hb1
  have hr2 : w2.heap[w.heap.size + 1]? = some (.cells (four e0 0 e0 none 0 0) T (0, 0)) := by rw [hw2, ← hs1]; exact heap_alloc_new _ _
  have hK := hK1.trans hK2
  have ht2 := h.next hK
  have hlc := h.lc
  have hcm := h.cm
  have hlen := h.len
  have hszt := h.size
  have hcl : cl ≤ 100000 := by have h1 := Fo.len_nodes c; omega
  have HL := Lib.hid hlen
  have HI := Lib.hid ih
  have HW := Lib.hid hw2
  have HW1 := Lib.hid hw1
  clear hw1 hw2 hlen ih hb1
  obtain ⟨b0, b1, b2, b3, q0, q1, q2, q3⟩ := box4 hb2
  obtain ⟨r0, r1, r2, r3, f0, f1, f2, f3⟩ := box4 hr2
  cases cp with
  | none =>
    have h0 : cl = 0 := by
      rcases Nat.eq_zero_or_pos cl with h0 | h0
      · exact h0
      · obtain ⟨_, _, hp, _⟩ := ht2.kids.hasAddr h0
        simp at hp
    have hc0 : c = .nil := by
      cases c with
      | nil => rfl
      | cons k' n' t' c' r' => have := HL.out; simp only [Fo.len] at this; omega
    have he : ∀ w : World, (binOp .eql 22 (.slice none cl cc) (.slice none 0 0)).run Try.prog w = .ok (.bool true) w := fun _ => by kernel_rfl
    have hfin : ∀ W', Keeps (fun b => b = w.heap.size + 1) w2 W' → TwinM2 k n t c w (.returned (tv k n t none cl cc)) W' := fun W' hk => by
      subst hc0
      exact ⟨none, cl, cc, rfl, ⟨hszt, hlc, hcm, h0⟩, ⟨.inl rfl, trivial⟩, hK.trans' hk (fun b hb hl => by omega), fun g hg => by simp at hg⟩
    have HF := Lib.hid hfin
    clear h0 hc0 hfin hszt h
    go_enter Try.func21, Try.ntmps21
    go_upto_region 1 with fail
    rw [← HW1.out, ← HW.out]
    go_wp2_with fail
    refine bodyPost_ret (v := tv k n t none cl cc) (by simp [results, Try.results21, go_sem, r0, r1, r2, r3]) rfl ?_
    exact HF.out _ (Keeps.four _ _ _ _ _ _)
  | some ca =>
    have he : ∀ w : World, (binOp .eql 22 (.slice (some ca) cl cc) (.slice none 0 0)).run Try.prog w = .ok (.bool false) w := fun _ => rfl
    obtain ⟨W0, hmk, hown0, hg0⟩ := run_make_own (P := Try.prog) w2 w2.heap.size 22 T i0 _ 4 Try.underlying22 hi0 hz0 hz1 .i64 .i64 (cl + 1) (by rw [hz2]; omega) (by unfold maxLen; omega) (Nat.le_refl _)
    have hkW0 : Keeps (fun _ => False) w2 W0 := (Keeps.refl _ w2).grown hg0 (fun k hk => by simp at hk)
    have hI0 : TwI w2.heap.size W0 c 0 (.slice (some ⟨w2.heap.size, 0, none⟩) 0 (cl + 1)) [] := ⟨ownsRow_low hown0, rfl, fun b hb => by injection hb with hb; exact Nat.le_of_eq hb⟩
    have hmk2 : (Instr.makeSlice 22 (.int .i64 0) (.int .i64 ((cl : Int) + 1))).run Try.prog w2 = .ok (.slice (some ⟨w2.heap.size, 0, none⟩) 0 (cl + 1)) W0 := by
      have := hmk
      rwa [show ((cl + 1 : Nat) : Int) = (cl : Int) + 1 by omega] at this
    clear hmk hown0 hg0
    go_enter Try.func21, Try.ntmps21
    go_upto_region 1 with fail
    rw [← HW1.out, ← HW.out]
    go_wp2_with fail
    go_loopg [3, 4] cl (fun m l i W => ∃ j : Nat, j + m = cl ∧ i = .int .i64 j ∧ ∃ vp vl vc xs, l = .slice vp vl vc ∧ TwI w2.heap.size W c j (.slice vp vl vc) xs ∧ Keeps (fun _ => False) w2 W)
    case atStart => exact ⟨0, by omega, rfl, _, _, _, [], rfl, (by rw [← hs2]; exact hI0), hkW0⟩
    case round =>
      obtain ⟨j, hjm, rfl, vp, vl, vc, xs, rfl, hI, hk⟩ := hrel
      have hbr := hk.heap hb2
      obtain ⟨b0, b1, b2, b3, q0, q1, q2, q3⟩ := box4 hbr
      have HJ := Lib.hid hjm
      have HRI := Lib.hid hI
      have HKr := Lib.hid hk
      have hks := hk.size
      clear hjm hI0 hkW0
      by_cases hlt : j < cl
      · have htr := ht2.next hk
        obtain ⟨kb, ko, hca, hAk, hkb⟩ := htr.kids.hasAddr (by omega)
        injection hca with hca
        subst hca
        obtain ⟨k1, n1, t1, s1, r1, hdr⟩ := Fo.drop_lt j c (by rw [HL.out]; exact hlt)
        obtain ⟨cp1, cl1, cc1, hn1⟩ := htr.kids.at_ j hdr hlt
        have hz := HI.out (by omega) k1 n1 t1 s1 A cp1 cl1 cc1 wr (by have := Tv.kidNodes hdr; omega) hn1.tv
        have HD := Lib.hid hdr
        have a0 := hn1.c0
        have a1 := hn1.c1
        have a2 := hn1.c2
        have a3 := hn1.c3
        have hi0' : (0 : Int) ≤ (j : Int) := Int.natCast_nonneg _
        have hi1 : (j : Int) < (cl : Int) := by omega
        have hj : j + 1 ≤ maxLen := by unfold maxLen; omega
        clear hdr hn1 htr hI hk he hmk2
        go_wp2_with fail
        refine hz.mono ?_
        clear hz a0 a1 a2 a3 b0 b1 b2 b3 q0 q1 q2 q3
        rintro e W2 ⟨cp2, cl2, cc2, rfl, hO, hNw, hk2⟩
        obtain ⟨Wp, hWp⟩ : ∃ Wp, Wp = W2.alloc (.cells (four k1 n1 t1 cp2 cl2 cc2) T) := ⟨_, rfl⟩
        have hkp : Keeps (fun _ => False) W2 Wp := by rw [hWp]; exact (Keeps.refl _ W2).alloc _
        have hbp : Wp.heap[W2.heap.size]? = some (.cells (four k1 n1 t1 cp2 cl2 cc2) T (0, 0)) := by rw [hWp]; exact heap_alloc_new _ _
        obtain ⟨a0, a1, a2, a3, _⟩ := box4 hbp
        have hrow := ((HRI.out.next hk2).next hkp).row
        have hsp := hkp.size
        have hs2' := hk2.size
        have HWp := Lib.hid hWp
        have HO := Lib.hid hO
        have HNw := Lib.hid hNw
        have HK2 := Lib.hid hk2
        have HKP := Lib.hid hkp
        rw [hWp] at a0 a1 a2 a3
        clear hWp hO hNw hk2 hkp hbp
        go_upto_region 8 with fail
        rw [← HWp.out]
        rw [← HWp.out] at a0 a1 a2 a3
        go_wp2_with (at_builtin; refine wpList_append_lies _ rfl _ _ _ rfl 0 T i0 _ 4 64 Try.underlying22 hi0 hz0 hz1 hz2 rfl (by decide) (.slice vp vl vc) j xs rfl (hrow.alloc _) ⟨Wp.heap.size, 0, none⟩ 1 1 [.string k1, .int .i64 n1, .string t1, .slice cp2 cl2 cc2] rfl rfl (World.news_of_block (cs := #[.string k1, .int .i64 n1, .string t1, .slice cp2 cl2 cc2]) (t := T) (fr := (0, 0)) (heap_alloc_new Wp _)) (by simp [Value.oneCell']) (by omega) hj (by omega) (by omega) (Wp.heap.size + 1) (by simp) ?_; intro gg cap w3 hown3 hgrow3 hat3 hlt3)
        go_roundg (gk - 1)
        case measure => have := HJ.out; omega
        case rel =>
          have hks1 := HKr.out.size
          obtain ⟨h1, h2⟩ := HRI.out.push (by omega) HD.out HO.out HNw.out HK2.out (HKP.out.alloc _) hown3 hgrow3 (by simpa using hat3)
          refine ⟨j + 1, by have := HJ.out; omega, by go_num, _, _, _, _, rfl, h1, (((HKr.out.trans HK2.out).trans HKP.out).alloc _).trans' h2 (fun b hb hl => ?_)⟩
          have := HRI.out.lo b hb
          omega
      · have hjc : j = cl := by have := HJ.out; omega
        have hlen : c.len = j := by rw [HL.out]; exact hjc.symm
        have HLN := Lib.hid hlen
        have hj : j + 1 ≤ maxLen := by unfold maxLen; omega
        have hrow := HRI.out.row
        have hbres := hk.heap hr2
        have hj1 : j ≤ 100000 := by omega
        clear hI hk he hmk2
        go_upto_region 10 with (at_builtin; refine wpList_append_lies _ rfl _ _ _ rfl 0 T i0 _ 4 64 Try.underlying22 hi0 hz0 hz1 hz2 rfl (by decide) (.slice vp vl vc) j xs rfl (hrow.alloc _) ⟨wr.heap.size, 0, none⟩ 1 1 [.string mk4, .int .i64 0, .string e0, .slice none 0 0] rfl rfl (World.news_of_block (cs := #[.string mk4, .int .i64 0, .string e0, .slice none 0 0]) (t := T) (fr := (0, 0)) (heap_alloc_new wr _)) (by simp [Value.oneCell']) (by omega) hj (by omega) (by omega) (wr.heap.size + 1) (by simp) ?_; intro gg cap w3 hown3 hgrow3 hat3 hlt3)
        have hsr := hks
        obtain ⟨hT3, hM3, hk3⟩ := ((HRI.out.next ((Keeps.refl _ wr).alloc _)).done (by simp only [World.size_alloc]; omega) HLN.out hj1 hszt hown3 hgrow3 (by simpa using hat3))
        have hkA : Keeps (fun _ => False) w2 w3 := (HKr.out.alloc _).trans' hk3 (fun b hb hl => by have := HRI.out.lo b hb; omega)
        have hb3 := hkA.heap hb2
        have hr3 := hkA.heap hr2
        obtain ⟨b0, b1, b2, b3, q0, q1, q2, q3⟩ := box4 hb3
        obtain ⟨r0, r1, r2, r3, f0, f1, f2, f3⟩ := box4 hr3
        have hgg2 : w2.heap.size ≤ gg := by
          rcases (by simpa using hat3 : (Value.slice vp vl vc).ownBlock = some gg ∨ gg = wr.heap.size + 1) with h | h
          · exact HRI.out.lo gg h
          · omega
        have hgblk : ∃ cur, w3.heap[gg]? = some (.cells cur T (0, 0)) ∧ j * 4 ≤ cur.size := by
          rcases hown3.2 with ⟨h, _⟩ | ⟨g', cap', cur, h, _, h2, h3, h4, h5, _⟩
          · simp at h
          · simp only [Value.slice.injEq, Option.some.injEq, Addr.mk.injEq, and_true] at h
            obtain ⟨h6, _, rfl⟩ := h
            subst h6
            exact ⟨cur, h2, by omega⟩
        have hfin : ∀ W', Keeps (fun b => b = w.heap.size ∨ b = w.heap.size + 1) w3 W' → TwinM2 k n t c w (.returned (tv k n t (some ⟨gg, 0, none⟩) j cap)) W' := fun W' hk' => by
          have hne : ∀ b, (w2.heap.size ≤ b ∧ b < w3.heap.size) → ¬ (b = w.heap.size ∨ b = w.heap.size + 1) := fun b hb => by omega
          exact ⟨some ⟨gg, 0, none⟩, j, cap, rfl, (hT3.keeps hk' hne).mono (fun b hb => ⟨by omega, by have := hk'.size; omega⟩), (hM3.keeps hk' hne).mono (fun b hb => ⟨by omega, by have := hk'.size; omega⟩), (hK.trans hkA).trans' hk' (fun b hb hl => by omega), fun a ha => by
            injection ha with ha
            subst ha
            obtain ⟨cur, hh, hc⟩ := hgblk
            exact ⟨gg, rfl, cur, (hk'.block gg (heap_lt hh) (by omega)).trans hh, hc⟩⟩
        have hcap : j + 1 ≤ cap := by
          rcases hown3.2 with ⟨h, _⟩ | ⟨g', cap', cur, h, _, _, h1, h2, _⟩
          · simp at h
          · simp only [Value.slice.injEq] at h
            obtain ⟨_, _, rfl⟩ := h
            exact h1
        have HF := Lib.hid hfin
        have hjz : (j : Int) ≤ 100000 := by omega
        clear hfin hT3 hM3 hk3 hown3 hgrow3 hat3 hrow hb3 hr3 HRI
        go_wp2_with fail
        refine bodyPost_ret (v := tv k n t (some ⟨gg, 0, none⟩) j cap) (by simp [results, Try.results21, go_sem, r0, r1, r2, r3, hjc]) rfl ?_
        refine HF.out _ ?_
        have h0 := Keeps.refl (fun b => b = w.heap.size ∨ b = w.heap.size + 1) w3
        exact ((((h0.setCell (p := ⟨w.heap.size, 3, none⟩) (fun _ => .inl rfl) _).setCell (p := ⟨w.heap.size + 1, 0, none⟩) (fun _ => .inr rfl) _).setCell (p := ⟨w.heap.size + 1, 1, none⟩) (fun _ => .inr rfl) _).setCell (p := ⟨w.heap.size + 1, 2, none⟩) (fun _ => .inr rfl) _).setCell (p := ⟨w.heap.size + 1, 3, none⟩) (fun _ => .inr rfl) _
end Go.Proofs.Ytnphhibfiklfjaa
