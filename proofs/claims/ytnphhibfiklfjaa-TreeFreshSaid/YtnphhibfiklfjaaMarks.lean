/-
  Marks in the spare places of lists of kids; espalierlaw4.marks: its walk.
-/
import Derived.Test.YtnphhibfiklfjaaPkD

set_option linter.unusedVariables false

set_option linter.unusedSimpArgs false

namespace Go.Proofs.Ytnphhibfiklfjaa

open Go.RowKit

abbrev mk4 : ByteArray := ⟨#[109, 97, 114, 107]⟩
/-- Behind the last kid lies a mark; or there is no list. -/
def Spare (w : World) (A : Nat → Prop) (cp : Option Addr) (cl cc : Nat) : Prop := cp = none ∨ ∃ b o, cp = some ⟨b, o, none⟩ ∧ A b ∧ b < w.heap.size ∧ cl < cc ∧ w.cell? ⟨b, o + cl * 4, none⟩ = some (.string mk4)
/-- So in all kids' lists. -/
def MK (w : World) (A : Nat → Prop) : Fo → Option Addr → Prop
  | .nil, _ => True
  | .cons _ _ _ c r, p => ∃ b o cp cl cc, p = some ⟨b, o, none⟩ ∧ A b ∧ b < w.heap.size ∧ w.cell? ⟨b, o + 3, none⟩ = some (.slice cp cl cc) ∧ Spare w A cp cl cc ∧ MK w A c cp ∧ MK w A r (some ⟨b, o + 4, none⟩)
structure MarkT (w : World) (A : Nat → Prop) (c : Fo) (cp : Option Addr) (cl cc : Nat) : Prop where
  spare : Spare w A cp cl cc
  kids : MK w A c cp
theorem Spare.keeps {w w1 : World} {A S : Nat → Prop} {cp cl cc} (h : Spare w A cp cl cc) (hk : Keeps S w w1) (hA : ∀ b, A b → ¬ S b) : Spare w1 A cp cl cc := by
  rcases h with h | ⟨b, o, h1, h2, h3, h4, h5⟩
  · exact .inl h
  · exact .inr ⟨b, o, h1, h2, Nat.lt_of_lt_of_le h3 hk.size, h4, (hk.cell (p := ⟨b, o + cl * 4, none⟩) h3 (hA b h2)).trans h5⟩
theorem Spare.mono {w : World} {A A' : Nat → Prop} {cp cl cc} (h : Spare w A cp cl cc) (hA : ∀ b, A b → A' b) : Spare w A' cp cl cc := by
  rcases h with h | ⟨b, o, h1, h2, h3, h4, h5⟩
  · exact .inl h
  · exact .inr ⟨b, o, h1, hA b h2, h3, h4, h5⟩
theorem MK.keeps {w w1 : World} {A S : Nat → Prop} (hk : Keeps S w w1) (hA : ∀ b, A b → ¬ S b) : ∀ {f : Fo} {p : Option Addr}, MK w A f p → MK w1 A f p
  | .nil, _, _ => trivial
  | .cons _ _ _ _ _, _, ⟨b, o, cp, cl, cc, h1, h2, h3, h4, h5, h6, h7⟩ => ⟨b, o, cp, cl, cc, h1, h2, Nat.lt_of_lt_of_le h3 hk.size, (hk.cell (p := ⟨b, o + 3, none⟩) h3 (hA b h2)).trans h4, h5.keeps hk hA, MK.keeps hk hA h6, MK.keeps hk hA h7⟩
theorem MK.mono {w : World} {A A' : Nat → Prop} (hA : ∀ b, A b → A' b) : ∀ {f : Fo} {p : Option Addr}, MK w A f p → MK w A' f p
  | .nil, _, _ => trivial
  | .cons _ _ _ _ _, _, ⟨b, o, cp, cl, cc, h1, h2, h3, h4, h5, h6, h7⟩ => ⟨b, o, cp, cl, cc, h1, hA b h2, h3, h4, h5.mono hA, MK.mono hA h6, MK.mono hA h7⟩
theorem MarkT.keeps {w w1 : World} {A S : Nat → Prop} {c cp cl cc} (h : MarkT w A c cp cl cc) (hk : Keeps S w w1) (hA : ∀ b, A b → ¬ S b) : MarkT w1 A c cp cl cc := ⟨h.spare.keeps hk hA, h.kids.keeps hk hA⟩
theorem MarkT.mono {w : World} {A A' : Nat → Prop} {c cp cl cc} (h : MarkT w A c cp cl cc) (hA : ∀ b, A b → A' b) : MarkT w A' c cp cl cc := ⟨h.spare.mono hA, h.kids.mono hA⟩
theorem MarkT.next {w w1 : World} {A : Nat → Prop} {c cp cl cc} (h : MarkT w A c cp cl cc) (hk : Keeps (fun _ => False) w w1) : MarkT w1 A c cp cl cc := h.keeps hk (fun _ _ h => h)
theorem MK.drop {w : World} {A : Nat → Prop} : ∀ (i : Nat) {f : Fo} {b o : Nat}, MK w A f (some ⟨b, o, none⟩) → MK w A (f.drop i) (some ⟨b, o + i * 4, none⟩)
  | 0, _, _, _, h => by simpa [Fo.drop] using h
  | i + 1, .nil, _, _, _ => trivial
  | i + 1, .cons k n t c r, b, o, ⟨b', o', cp, cl, cc, hp, _, _, _, _, _, hr⟩ => by
    simp only [Option.some.injEq, Addr.mk.injEq, and_true] at hp
    obtain ⟨rfl, rfl⟩ := hp
    have := MK.drop i hr
    rw [show o + (i + 1) * 4 = o + 4 + i * 4 by omega]
    exact this
/-- The i-th kid's marks. -/
theorem MK.at_ {w : World} {A : Nat → Prop} {f : Fo} {b o i : Nat} {k n t c r} {cp cl cc} (h : MK w A f (some ⟨b, o, none⟩)) (hd : f.drop i = .cons k n t c r) (h3 : w.cell? ⟨b, o + i * 4 + 3, none⟩ = some (.slice cp cl cc)) : MarkT w A c cp cl cc := by
  have h1 := h.drop i
  rw [hd] at h1
  obtain ⟨b', o', cp', cl', cc', hp, _, _, h4, h5, h6, _⟩ := h1
  simp only [Option.some.injEq, Addr.mk.injEq, and_true] at hp
  obtain ⟨rfl, rfl⟩ := hp
  rw [h3] at h4
  simp only [Option.some.injEq, Value.slice.injEq] at h4
  obtain ⟨rfl, rfl, rfl⟩ := h4
  exact ⟨h5, h6⟩
set_option maxRecDepth 100000 in
set_option maxHeartbeats 1600000 in
theorem marks_any : ∀ (N : Nat) (k : ByteArray) (n : Int) (t : ByteArray) (c : Fo) (cp : Option Addr) (cl cc : Nat) (A : Nat → Prop) (w : World), c.nodes < N → N ≤ 100000 → Tv w A k t c cp cl cc → MarkT w A c cp cl cc →
    Calls Try.prog 56 #[tv k n t cp cl cc] w fun e w' => e = .returned (.bool true) ∧ Keeps (fun _ => False) w w' := by
  intro N
  induction N with
  | zero => intros; omega
  | succ N ih =>
    intro k n t c cp cl cc A w hN hN1 h hm
    obtain ⟨w1, hw1⟩ : ∃ w1, w1 = w.alloc (.cells (four k n t cp cl cc) T) := ⟨_, rfl⟩
    have hK1 : Keeps (fun _ => False) w w1 := by rw [hw1]; exact (Keeps.refl _ w).alloc _
    have hs1 : w1.heap.size = w.heap.size + 1 := by rw [hw1]; simp
    have hbx : w1.heap[w.heap.size]? = some (.cells (four k n t cp cl cc) T (0, 0)) := by rw [hw1]; exact heap_alloc_new _ _
    have ht1 := h.next hK1
    have hm1 := hm.next hK1
    have hlc := h.lc
    have hcm := h.cm
    have hcl : cl ≤ 100000 := by have h1 := Fo.len_nodes c; have h2 := h.len; omega
    have HW := Lib.hid hw1
    have HI := Lib.hid ih
    have hloop : Hid (∀ (K : Act → World → Prop), True) := Lib.hid fun _ => trivial
    clear hw1 ih hloop
    rcases hm1.spare with rfl | ⟨kb, ko, rfl, hAk, hkb, hlt, hmk⟩
    · have h0 : cl = 0 := by
        rcases Nat.eq_zero_or_pos cl with h0 | h0
        · exact h0
        · obtain ⟨_, _, hp, _⟩ := ht1.kids.hasAddr h0
          simp at hp
      subst h0
      obtain ⟨c0, c1, c2, c3, _⟩ := box4 hbx
      clear hbx ht1 hm1 h hm
      go_enter Try.func56, Try.ntmps56
      go_upto_region 1 with fail
      rw [← HW.out]
      go_wp2_with fail
      go_loopg [4] 0 (fun m i W' => i = .int .i64 0 ∧ W' = w1)
      case atStart => exact ⟨rfl, rfl⟩
      case round =>
        obtain ⟨rfl, rfl⟩ := hrel
        go_wp2_with fail
        go_ret
        exact ⟨rfl, hK1⟩
    · obtain ⟨c0, c1, c2, c3, _⟩ := box4 hbx
      have g1 : decide (cc ≤ cl) = false := by simp; omega
      have g2 : ¬ (cc ≤ cl) := by omega
      go_enter Try.func56, Try.ntmps56
      go_upto_region 1 with fail
      rw [← HW.out]
      go_wp2_with fail
      clear c0 c1 c2 c3 hmk
      go_loopg [4] cl (fun m i W' => ∃ (j : Nat), j + m = cl ∧ i = .int .i64 j ∧ Keeps (fun _ => False) w1 W')
      case atStart => exact ⟨0, by omega, rfl, Keeps.refl _ _⟩
      case round =>
        obtain ⟨j, hjm, rfl, hkr⟩ := hrel
        have hbr := hkr.heap hbx
        obtain ⟨b0, b1, b2, b3, _⟩ := box4 hbr
        have HJ := Lib.hid hjm
        have HKR := Lib.hid hkr
        have HF := Lib.hid (hK1.trans hkr)
        clear hjm hkr
        by_cases hltj : j < cl
        · have htr := ht1.next HKR.out
          have hmr := hm1.next HKR.out
          obtain ⟨k1, n1, t1, s1, r1, hdr⟩ := Fo.drop_lt j c (by rw [ht1.len]; exact hltj)
          obtain ⟨cp1, cl1, cc1, hn1⟩ := htr.kids.at_ j hdr hltj
          have hz := HI.out k1 n1 t1 s1 cp1 cl1 cc1 A wr (by have := Tv.kidNodes hdr; omega) (by omega) hn1.tv (hmr.kids.at_ hdr hn1.c3)
          have a0 := hn1.c0
          have a1 := hn1.c1
          have a2 := hn1.c2
          have a3 := hn1.c3
          have hi0' : (0 : Int) ≤ (j : Int) := Int.natCast_nonneg _
          have hi1 : (j : Int) < (cl : Int) := by omega
          clear hdr hn1 htr
          go_wp2_with fail
          refine hz.mono ?_
          clear hz a0 a1 a2 a3 b0 b1 b2 b3
          rintro e W2 ⟨rfl, hkW⟩
          have HKW := Lib.hid hkW
          clear hkW
          go_wp2_with fail
          go_roundg (gk - 1)
          case measure => have := HJ.out; omega
          case rel => exact ⟨j + 1, by have := HJ.out; omega, by go_num, HKR.out.trans HKW.out⟩
        · go_wp2_with fail
          go_ret
          exact ⟨rfl, HF.out⟩
end Go.Proofs.Ytnphhibfiklfjaa
