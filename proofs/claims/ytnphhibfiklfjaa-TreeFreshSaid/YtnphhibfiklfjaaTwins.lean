/-
  espalierlaw4.Twin: its walk.
-/
import Derived.Test.YtnphhibfiklfjaaMarks

import Derived.Test.YtnphhibfiklfjaaPkC

import Derived.Laws.MakeOwn

set_option linter.unusedVariables false

set_option linter.unusedSimpArgs false

namespace Go.Proofs.Ytnphhibfiklfjaa

open Go.RowKit

/-- The values xs are the trees f, four cells each, with marks beneath. -/
def MV (w : World) (A : Nat → Prop) : Fo → List Value → Prop
  | .nil, xs => xs = []
  | .cons k n t c r, xs => ∃ cp cl cc xs', xs = .string k :: .int .i64 n :: .string t :: .slice cp cl cc :: xs' ∧ Tv w A k t c cp cl cc ∧ MarkT w A c cp cl cc ∧ MV w A r xs'
theorem MV.keeps {w w1 : World} {A S : Nat → Prop} (hk : Keeps S w w1) (hA : ∀ b, A b → ¬ S b) : ∀ {f : Fo} {xs : List Value}, MV w A f xs → MV w1 A f xs
  | .nil, _, h => h
  | .cons _ _ _ _ _, _, ⟨cp, cl, cc, xs', h1, h2, h3, h4⟩ => ⟨cp, cl, cc, xs', h1, h2.keeps hk hA, h3.keeps hk hA, MV.keeps hk hA h4⟩
theorem MV.mono {w : World} {A A' : Nat → Prop} (hA : ∀ b, A b → A' b) : ∀ {f : Fo} {xs : List Value}, MV w A f xs → MV w A' f xs
  | .nil, _, h => h
  | .cons _ _ _ _ _, _, ⟨cp, cl, cc, xs', h1, h2, h3, h4⟩ => ⟨cp, cl, cc, xs', h1, h2.mono hA, h3.mono hA, MV.mono hA h4⟩
theorem MV.snoc {w : World} {A : Nat → Prop} {k n t c cp cl cc} (h2 : Tv w A k t c cp cl cc) (h3 : MarkT w A c cp cl cc) : ∀ {f : Fo} {xs : List Value}, MV w A f xs → MV w A (f.snoc k n t c) (xs ++ [.string k, .int .i64 n, .string t, .slice cp cl cc])
  | .nil, _, h => by
    have h : _ = [] := h
    subst h
    exact ⟨cp, cl, cc, [], rfl, h2, h3, rfl⟩
  | .cons _ _ _ _ _, _, ⟨cp', cl', cc', xs', h1, h2', h3', h4⟩ => ⟨cp', cl', cc', _, by rw [h1]; rfl, h2', h3', MV.snoc h2 h3 h4⟩
/-- Laid in a row they are a list of kids. -/
theorem MV.kids {w : World} {A : Nat → Prop} : ∀ {f : Fo} {xs : List Value} {b o : Nat}, MV w A f xs → A b → b < w.heap.size → f.len ≤ 9223372036854775807 → (∀ j v, xs[j]? = some v → w.cell? ⟨b, o + j, none⟩ = some v) → Kids w A f (some ⟨b, o, none⟩) f.len ∧ MK w A f (some ⟨b, o, none⟩)
  | .nil, _, _, _, _, _, _, _, _ => ⟨rfl, trivial⟩
  | .cons k n t c r, _, b, o, ⟨cp, cl, cc, xs', h1, h2, h3, h4⟩, hb, hl, hm, hc => by
    subst h1
    have hr := MV.kids (o := o + 4) h4 hb hl (by simp only [Fo.len] at hm; omega) (fun j v hj => by
      have := hc (j + 4) v (by simpa using hj)
      rwa [show o + (j + 4) = o + 4 + j by omega] at this)
    have e3 := hc 3 _ rfl
    exact ⟨⟨b, o, r.len, cp, cl, cc, rfl, rfl, hm, hb, hl, h2.size, h2.lc, h2.cm, hc 0 _ rfl, hc 1 _ rfl, hc 2 _ rfl, e3, h2.kids, hr.1⟩, b, o, cp, cl, cc, rfl, hb, hl, e3, h3.spare, h3.kids, hr.2⟩
theorem ownsRow_low {w : World} {base e size n : Nat} {v : Value} {xs : List Value} (h : w.ownsRow base e size v n xs) : w.ownsRow 0 e size v n xs := by
  refine ⟨h.1, ?_⟩
  rcases h.2 with h2 | ⟨g, cap, cur, rfl, hg, r⟩
  · exact .inl h2
  · exact .inr ⟨g, cap, cur, rfl, Nat.zero_le _, r⟩
/-- Half way: j kids are there. -/
structure TwI (D : Nat) (W : World) (c : Fo) (j : Nat) (v : Value) (xs : List Value) : Prop where
  row : W.ownsRow 0 T 4 v j xs
  rep : MV W (fun b => D ≤ b ∧ b < W.heap.size ∧ v.ownBlock ≠ some b) (c.take j) xs
  lo : ∀ b, v.ownBlock = some b → D ≤ b
theorem TwI.next {D : Nat} {W W1 : World} {c : Fo} {j : Nat} {v : Value} {xs : List Value} (h : TwI D W c j v xs) (hk : Keeps (fun _ => False) W W1) : TwI D W1 c j v xs :=
  ⟨ownsRow_same h.row (fun b hb => by
    have hb' : v.ownBlock = some b := by simpa using hb
    exact hk.block b (h.row.lt b hb').2 (fun h => h)), (h.rep.keeps hk (fun _ _ h => h)).mono (fun b hb => ⟨hb.1, Nat.lt_of_lt_of_le hb.2.1 hk.size, hb.2.2⟩), h.lo⟩
/-- The row grew by four values, none of them a list of the old ones'. -/
theorem TwI.grown {D : Nat} {Wp w3 : World} {c : Fo} {j j' : Nat} {v : Value} {xs ys : List Value} (hI : TwI D Wp c j v xs) (hD : D ≤ Wp.heap.size) {gg cap : Nat}
    (hg : Wp.grownBy w3 v.ownBlock) (hat : v.ownBlock = some gg ∨ gg = Wp.heap.size) :
    Keeps (fun b => v.ownBlock = some b) Wp w3 ∧ D ≤ gg ∧ ∀ (A : Nat → Prop), (∀ b, A b → b < Wp.heap.size ∧ D ≤ b ∧ v.ownBlock ≠ some b) → ∀ b, A b → D ≤ b ∧ b < w3.heap.size ∧ (Value.slice (some ⟨gg, 0, none⟩) j' cap).ownBlock ≠ some b := by
  have hs := hg.size
  refine ⟨⟨hg.os, hg.tape, hg.output, hg.size, fun x hx hn => hg.block x hx (fun e => hn e.symm)⟩, ?_, fun A hA b hb => ?_⟩
  · rcases hat with h | h
    · exact hI.lo _ h
    · omega
  · obtain ⟨h1, h2, h3⟩ := hA b hb
    refine ⟨h2, by omega, fun e => ?_⟩
    injection e with e
    have e : gg = b := e
    subst e
    rcases hat with h | h
    · exact h3 h
    · omega
theorem TwI.push {D : Nat} {wr W2 Wp w3 : World} {c : Fo} {j : Nat} {v : Value} {xs : List Value} (hI : TwI D wr c j v xs) (hD : D ≤ wr.heap.size)
    {k1 : ByteArray} {n1 : Int} {t1 : ByteArray} {s1 r1 : Fo} {cp1 : Option Addr} {cl1 cc1 : Nat} (hd : c.drop j = .cons k1 n1 t1 s1 r1)
    (ht : Tv W2 (fun b => wr.heap.size ≤ b ∧ b < W2.heap.size) k1 t1 s1 cp1 cl1 cc1) (hm : MarkT W2 (fun b => wr.heap.size ≤ b ∧ b < W2.heap.size) s1 cp1 cl1 cc1) (hk : Keeps (fun _ => False) wr W2) (hp : Keeps (fun _ => False) W2 Wp) {gg cap : Nat}
    (hrow : w3.ownsRow 0 T 4 (.slice (some ⟨gg, 0, none⟩) (j + 1) cap) (j + 1) (xs ++ [.string k1, .int .i64 n1, .string t1, .slice cp1 cl1 cc1]))
    (hg : Wp.grownBy w3 v.ownBlock) (hat : v.ownBlock = some gg ∨ gg = Wp.heap.size) :
    TwI D w3 c (j + 1) (.slice (some ⟨gg, 0, none⟩) (j + 1) cap) (xs ++ [.string k1, .int .i64 n1, .string t1, .slice cp1 cl1 cc1]) ∧ Keeps (fun b => v.ownBlock = some b) Wp w3 := by
  have hI2 := (hI.next hk).next hp
  have hsz := hk.size
  have hsp := hp.size
  obtain ⟨hka, hgg, hmono⟩ := TwI.grown (j' := j + 1) (cap := cap) (ys := []) hI2 (by omega) hg hat
  have hlt : ∀ b, v.ownBlock = some b → b < wr.heap.size := fun b hb => (hI.row.lt b hb).2
  have hkid : ∀ b, (wr.heap.size ≤ b ∧ b < W2.heap.size) → ¬ v.ownBlock = some b := fun b hb e => by have := hlt b e; omega
  refine ⟨⟨hrow, ?_, fun b hb => by injection hb with hb; subst hb; exact hgg⟩, hka⟩
  rw [Fo.take_step hd]
  refine MV.snoc ?_ ?_ ((hI2.rep.keeps hka (fun b hb => hb.2.2)).mono (hmono _ (fun b hb => ⟨hb.2.1, hb.1, hb.2.2⟩)))
  · exact ((ht.next hp).keeps hka hkid).mono (hmono _ (fun b hb => ⟨by omega, by omega, hkid b hb⟩))
  · exact ((hm.next hp).keeps hka hkid).mono (hmono _ (fun b hb => ⟨by omega, by omega, hkid b hb⟩))
/-- The mark is laid: the list of kids, and what lies behind it. -/
theorem TwI.done {D : Nat} {Wp w3 : World} {c : Fo} {j : Nat} {v : Value} {xs : List Value} {k t : ByteArray} (hI : TwI D Wp c j v xs) (hD : D ≤ Wp.heap.size) (hl : c.len = j) (hj : j ≤ 100000) (hs : szok k t) {gg cap : Nat} {m : List Value}
    (hrow : w3.ownsRow 0 T 4 (.slice (some ⟨gg, 0, none⟩) (j + 1) cap) (j + 1) (xs ++ .string mk4 :: m))
    (hg : Wp.grownBy w3 v.ownBlock) (hat : v.ownBlock = some gg ∨ gg = Wp.heap.size) :
    Tv w3 (fun b => D ≤ b ∧ b < w3.heap.size) k t c (some ⟨gg, 0, none⟩) j cap ∧ MarkT w3 (fun b => D ≤ b ∧ b < w3.heap.size) c (some ⟨gg, 0, none⟩) j cap ∧ Keeps (fun b => v.ownBlock = some b) Wp w3 := by
  obtain ⟨hka, hgg, hmono⟩ := TwI.grown (j' := j + 1) (cap := cap) (ys := []) hI hD hg hat
  have hrep := (hI.rep.keeps hka (fun b hb => hb.2.2)).mono (A' := fun b => D ≤ b ∧ b < w3.heap.size) (fun b hb => ⟨hb.1, by have := hg.size; omega⟩)
  rw [Fo.take_len (by omega)] at hrep
  have hlt : gg < w3.heap.size := (hrow.lt gg rfl).2
  have hxl : xs.length = j * 4 := hI.row.1
  obtain ⟨hcap, hmax⟩ : j + 1 ≤ cap ∧ cap ≤ maxLen := by
    rcases hrow.2 with ⟨h, _⟩ | ⟨g', cap', cur, h, _, _, h1, h2, _⟩
    · simp at h
    · simp only [Value.slice.injEq] at h
      obtain ⟨_, _, rfl⟩ := h
      exact ⟨h1, h2⟩
  have hcell : ∀ i x, (xs ++ .string mk4 :: m)[i]? = some x → w3.cell? ⟨gg, 0 + i, none⟩ = some x := fun i x hi => by
    have := hrow.cells rfl i x hi
    by_cases h0 : i = 0
    · subst h0; simpa [Addr.add] using this
    · simpa [Addr.add, h0] using this
  obtain ⟨hk1, hk2⟩ := MV.kids (b := gg) (o := 0) hrep ⟨hgg, hlt⟩ hlt (by omega) (fun i x hi => hcell i x (by
    rw [List.getElem?_append_left]
    · exact hi
    · exact (List.getElem?_eq_some_iff.1 hi).1))
  rw [hl] at hk1
  have hmk := hcell (j * 4) (.string mk4) (by rw [← hxl, List.getElem?_append_right (Nat.le_refl _)]; simp)
  unfold maxLen at hmax
  exact ⟨⟨hs, by omega, by omega, hk1⟩, ⟨.inr ⟨gg, 0, rfl, ⟨hgg, hlt⟩, hlt, by omega, hmk⟩, hk2⟩, hka⟩
/-- What Twin answers. -/
def TwinM (k : ByteArray) (n : Int) (t : ByteArray) (c : Fo) (w : World) (e : Ending) (w' : World) : Prop :=
  ∃ cp cl cc, e = .returned (tv k n t cp cl cc) ∧ Tv w' (fun b => w.heap.size ≤ b ∧ b < w'.heap.size) k t c cp cl cc ∧ MarkT w' (fun b => w.heap.size ≤ b ∧ b < w'.heap.size) c cp cl cc ∧ Keeps (fun _ => False) w w'
set_option maxRecDepth 100000 in
set_option maxHeartbeats 1600000 in
theorem Twin_any : ∀ (N : Nat), N ≤ 100000 → ∀ (k : ByteArray) (n : Int) (t : ByteArray) (c : Fo) (A : Nat → Prop) (cp : Option Addr) (cl cc : Nat) (w : World), c.nodes < N → Tv w A k t c cp cl cc →
   Calls Try.prog 21 #[tv k n t cp cl cc] w (TwinM k n t c w) := by
  intro N
  induction N with
  | zero => intros; omega
  | succ N ih =>
    intro hN1 k n t c A cp cl cc w hN h
    obtain ⟨i0, hi0, hz0, hz1, hz2⟩ := info_parts Try.treeInfo
    obtain ⟨w1, hw1⟩ : ∃ w1, w1 = w.alloc (.cells (four k n t cp cl cc) T) := ⟨_, rfl⟩
    obtain ⟨w2, hw2⟩ : ∃ w2, w2 = w1.alloc (.cells (four e0 0 e0 none 0 0) T) := ⟨_, rfl⟩
    have hK1 : Keeps (fun _ => False) w w1 := by rw [hw1]; exact (Keeps.refl _ w).alloc _
    have hK2 : Keeps (fun _ => False) w1 w2 := by rw [hw2]; exact (Keeps.refl _ w1).alloc _
    have hs1 : w1.heap.size = w.heap.size + 1 := by rw [hw1]; simp
    have hs2 : w2.heap.size = w.heap.size + 2 := by rw [hw2]; simp [hs1]
    have hb1 : w1.heap[w.heap.size]? = some (.cells (four k n t cp cl cc) T (0, 0)) := by rw [hw1]; exact heap_alloc_new _ _
    have hb2 := hK2.heap hb1
    have hr2 : w2.heap[w.heap.size + 1]? = some (.cells (four e0 0 e0 none 0 0) T (0, 0)) := by rw [hw2, ← hs1]; exact heap_alloc_new _ _
    have hK := hK1.trans hK2
    have ht2 := h.next hK
    have hlc := h.lc
    have hcm := h.cm
    have hlen := h.len
    have hszt := h.size
    have hcl : cl ≤ 100000 := by have h1 := Fo.len_nodes c; omega
    have HL := Lib.hid hlen
    have HI := Lib.hid ih
    have HW := Lib.hid hw2
    have HW1 := Lib.hid hw1
    clear hw1 hw2 hlen ih hb1
    obtain ⟨b0, b1, b2, b3, q0, q1, q2, q3⟩ := box4 hb2
    obtain ⟨r0, r1, r2, r3, f0, f1, f2, f3⟩ := box4 hr2
    cases cp with
    | none =>
      have h0 : cl = 0 := by
        rcases Nat.eq_zero_or_pos cl with h0 | h0
        · exact h0
        · obtain ⟨_, _, hp, _⟩ := ht2.kids.hasAddr h0
          simp at hp
      have hc0 : c = .nil := by
        cases c with
        | nil => rfl
        | cons k' n' t' c' r' => have := HL.out; simp only [Fo.len] at this; omega
      have he : ∀ w : World, (binOp .eql 22 (.slice none cl cc) (.slice none 0 0)).run Try.prog w = .ok (.bool true) w := fun _ => by kernel_rfl
      have hfin : ∀ W', Keeps (fun b => b = w.heap.size + 1) w2 W' → TwinM k n t c w (.returned (tv k n t none cl cc)) W' := fun W' hk => by
        subst hc0
        exact ⟨none, cl, cc, rfl, ⟨hszt, hlc, hcm, h0⟩, ⟨.inl rfl, trivial⟩, hK.trans' hk (fun b hb hl => by omega)⟩
      have HF := Lib.hid hfin
      clear h0 hc0 hfin hszt h
      go_enter Try.func21, Try.ntmps21
      go_upto_region 1 with fail
      rw [← HW1.out, ← HW.out]
      go_wp2_with fail
      refine bodyPost_ret (v := tv k n t none cl cc) (by simp [results, Try.results21, go_sem, r0, r1, r2, r3]) rfl ?_
      exact HF.out _ (Keeps.four _ _ _ _ _ _)
    | some ca =>
      have he : ∀ w : World, (binOp .eql 22 (.slice (some ca) cl cc) (.slice none 0 0)).run Try.prog w = .ok (.bool false) w := fun _ => rfl
      obtain ⟨W0, hmk, hown0, hg0⟩ := run_make_own (P := Try.prog) w2 w2.heap.size 22 T i0 _ 4 Try.underlying22 hi0 hz0 hz1 .i64 .i64 (cl + 1) (by rw [hz2]; omega) (by unfold maxLen; omega) (Nat.le_refl _)
      have hkW0 : Keeps (fun _ => False) w2 W0 := (Keeps.refl _ w2).grown hg0 (fun k hk => by simp at hk)
      have hI0 : TwI w2.heap.size W0 c 0 (.slice (some ⟨w2.heap.size, 0, none⟩) 0 (cl + 1)) [] := ⟨ownsRow_low hown0, rfl, fun b hb => by injection hb with hb; exact Nat.le_of_eq hb⟩
      have hmk2 : (Instr.makeSlice 22 (.int .i64 0) (.int .i64 ((cl : Int) + 1))).run Try.prog w2 = .ok (.slice (some ⟨w2.heap.size, 0, none⟩) 0 (cl + 1)) W0 := by
        have := hmk
        rwa [show ((cl + 1 : Nat) : Int) = (cl : Int) + 1 by omega] at this
      clear hmk hown0 hg0
      go_enter Try.func21, Try.ntmps21
      go_upto_region 1 with fail
      rw [← HW1.out, ← HW.out]
      go_wp2_with fail
      go_loopg [3, 4] cl (fun m l i W => ∃ j : Nat, j + m = cl ∧ i = .int .i64 j ∧ ∃ vp vl vc xs, l = .slice vp vl vc ∧ TwI w2.heap.size W c j (.slice vp vl vc) xs ∧ Keeps (fun _ => False) w2 W)
      case atStart => exact ⟨0, by omega, rfl, _, _, _, [], rfl, (by rw [← hs2]; exact hI0), hkW0⟩
      case round =>
        obtain ⟨j, hjm, rfl, vp, vl, vc, xs, rfl, hI, hk⟩ := hrel
        have hbr := hk.heap hb2
        obtain ⟨b0, b1, b2, b3, q0, q1, q2, q3⟩ := box4 hbr
        have HJ := Lib.hid hjm
        have HRI := Lib.hid hI
        have HKr := Lib.hid hk
        have hks := hk.size
        clear hjm hI0 hkW0
        by_cases hlt : j < cl
        · have htr := ht2.next hk
          obtain ⟨kb, ko, hca, hAk, hkb⟩ := htr.kids.hasAddr (by omega)
          injection hca with hca
          subst hca
          obtain ⟨k1, n1, t1, s1, r1, hdr⟩ := Fo.drop_lt j c (by rw [HL.out]; exact hlt)
          obtain ⟨cp1, cl1, cc1, hn1⟩ := htr.kids.at_ j hdr hlt
          have hz := HI.out (by omega) k1 n1 t1 s1 A cp1 cl1 cc1 wr (by have := Tv.kidNodes hdr; omega) hn1.tv
          have HD := Lib.hid hdr
          have a0 := hn1.c0
          have a1 := hn1.c1
          have a2 := hn1.c2
          have a3 := hn1.c3
          have hi0' : (0 : Int) ≤ (j : Int) := Int.natCast_nonneg _
          have hi1 : (j : Int) < (cl : Int) := by omega
          have hj : j + 1 ≤ maxLen := by unfold maxLen; omega
          clear hdr hn1 htr hI hk he hmk2
          go_wp2_with fail
          refine hz.mono ?_
          clear hz a0 a1 a2 a3 b0 b1 b2 b3 q0 q1 q2 q3
          rintro e W2 ⟨cp2, cl2, cc2, rfl, hO, hNw, hk2⟩
          obtain ⟨Wp, hWp⟩ : ∃ Wp, Wp = W2.alloc (.cells (four k1 n1 t1 cp2 cl2 cc2) T) := ⟨_, rfl⟩
          have hkp : Keeps (fun _ => False) W2 Wp := by rw [hWp]; exact (Keeps.refl _ W2).alloc _
          have hbp : Wp.heap[W2.heap.size]? = some (.cells (four k1 n1 t1 cp2 cl2 cc2) T (0, 0)) := by rw [hWp]; exact heap_alloc_new _ _
          obtain ⟨a0, a1, a2, a3, _⟩ := box4 hbp
          have hrow := ((HRI.out.next hk2).next hkp).row
          have hsp := hkp.size
          have hs2' := hk2.size
          have HWp := Lib.hid hWp
          have HO := Lib.hid hO
          have HNw := Lib.hid hNw
          have HK2 := Lib.hid hk2
          have HKP := Lib.hid hkp
          rw [hWp] at a0 a1 a2 a3
          clear hWp hO hNw hk2 hkp hbp
          go_upto_region 8 with fail
          rw [← HWp.out]
          rw [← HWp.out] at a0 a1 a2 a3
          go_wp2_with (at_builtin; refine wpList_append_lies _ rfl _ _ _ rfl 0 T i0 _ 4 64 Try.underlying22 hi0 hz0 hz1 hz2 rfl (by decide) (.slice vp vl vc) j xs rfl (hrow.alloc _) ⟨Wp.heap.size, 0, none⟩ 1 1 [.string k1, .int .i64 n1, .string t1, .slice cp2 cl2 cc2] rfl rfl (World.news_of_block (cs := #[.string k1, .int .i64 n1, .string t1, .slice cp2 cl2 cc2]) (t := T) (fr := (0, 0)) (heap_alloc_new Wp _)) (by simp [Value.oneCell']) (by omega) hj (by omega) (by omega) (Wp.heap.size + 1) (by simp) ?_; intro gg cap w3 hown3 hgrow3 hat3 hlt3)
          go_roundg (gk - 1)
          case measure => have := HJ.out; omega
          case rel =>
            have hks1 := HKr.out.size
            obtain ⟨h1, h2⟩ := HRI.out.push (by omega) HD.out HO.out HNw.out HK2.out (HKP.out.alloc _) hown3 hgrow3 (by simpa using hat3)
            refine ⟨j + 1, by have := HJ.out; omega, by go_num, _, _, _, _, rfl, h1, (((HKr.out.trans HK2.out).trans HKP.out).alloc _).trans' h2 (fun b hb hl => ?_)⟩
            have := HRI.out.lo b hb
            omega
        · have hjc : j = cl := by have := HJ.out; omega
          have hlen : c.len = j := by rw [HL.out]; exact hjc.symm
          have HLN := Lib.hid hlen
          have hj : j + 1 ≤ maxLen := by unfold maxLen; omega
          have hrow := HRI.out.row
          have hbres := hk.heap hr2
          have hj1 : j ≤ 100000 := by omega
          clear hI hk he hmk2
          go_upto_region 10 with (at_builtin; refine wpList_append_lies _ rfl _ _ _ rfl 0 T i0 _ 4 64 Try.underlying22 hi0 hz0 hz1 hz2 rfl (by decide) (.slice vp vl vc) j xs rfl (hrow.alloc _) ⟨wr.heap.size, 0, none⟩ 1 1 [.string mk4, .int .i64 0, .string e0, .slice none 0 0] rfl rfl (World.news_of_block (cs := #[.string mk4, .int .i64 0, .string e0, .slice none 0 0]) (t := T) (fr := (0, 0)) (heap_alloc_new wr _)) (by simp [Value.oneCell']) (by omega) hj (by omega) (by omega) (wr.heap.size + 1) (by simp) ?_; intro gg cap w3 hown3 hgrow3 hat3 hlt3)
          have hsr := hks
          obtain ⟨hT3, hM3, hk3⟩ := ((HRI.out.next ((Keeps.refl _ wr).alloc _)).done (by simp only [World.size_alloc]; omega) HLN.out hj1 hszt hown3 hgrow3 (by simpa using hat3))
          have hkA : Keeps (fun _ => False) w2 w3 := (HKr.out.alloc _).trans' hk3 (fun b hb hl => by have := HRI.out.lo b hb; omega)
          have hb3 := hkA.heap hb2
          have hr3 := hkA.heap hr2
          obtain ⟨b0, b1, b2, b3, q0, q1, q2, q3⟩ := box4 hb3
          obtain ⟨r0, r1, r2, r3, f0, f1, f2, f3⟩ := box4 hr3
          have hfin : ∀ W', Keeps (fun b => b = w.heap.size ∨ b = w.heap.size + 1) w3 W' → TwinM k n t c w (.returned (tv k n t (some ⟨gg, 0, none⟩) j cap)) W' := fun W' hk' => by
            have hne : ∀ b, (w2.heap.size ≤ b ∧ b < w3.heap.size) → ¬ (b = w.heap.size ∨ b = w.heap.size + 1) := fun b hb => by omega
            exact ⟨some ⟨gg, 0, none⟩, j, cap, rfl, (hT3.keeps hk' hne).mono (fun b hb => ⟨by omega, by have := hk'.size; omega⟩), (hM3.keeps hk' hne).mono (fun b hb => ⟨by omega, by have := hk'.size; omega⟩), (hK.trans hkA).trans' hk' (fun b hb hl => by omega)⟩
          have hcap : j + 1 ≤ cap := by
            rcases hown3.2 with ⟨h, _⟩ | ⟨g', cap', cur, h, _, _, h1, h2, _⟩
            · simp at h
            · simp only [Value.slice.injEq] at h
              obtain ⟨_, _, rfl⟩ := h
              exact h1
          have HF := Lib.hid hfin
          have hjz : (j : Int) ≤ 100000 := by omega
          clear hfin hT3 hM3 hk3 hown3 hgrow3 hat3 hrow hb3 hr3 HRI
          go_wp2_with fail
          refine bodyPost_ret (v := tv k n t (some ⟨gg, 0, none⟩) j cap) (by simp [results, Try.results21, go_sem, r0, r1, r2, r3, hjc]) rfl ?_
          refine HF.out _ ?_
          have h0 := Keeps.refl (fun b => b = w.heap.size ∨ b = w.heap.size + 1) w3
          exact ((((h0.setCell (p := ⟨w.heap.size, 3, none⟩) (fun _ => .inl rfl) _).setCell (p := ⟨w.heap.size + 1, 0, none⟩) (fun _ => .inr rfl) _).setCell (p := ⟨w.heap.size + 1, 1, none⟩) (fun _ => .inr rfl) _).setCell (p := ⟨w.heap.size + 1, 2, none⟩) (fun _ => .inr rfl) _).setCell (p := ⟨w.heap.size + 1, 3, none⟩) (fun _ => .inr rfl) _
end Go.Proofs.Ytnphhibfiklfjaa
