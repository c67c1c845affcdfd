/-
  espalierref4.(*Count).over, Size, Small: their walks.
-/
import Derived.Test.YtnphhibfiklfjaaPkC

import Derived.Deep.LoopGhost

import Derived.Deep.Cut

import Derived.Deep.CutRange

import Derived.Deep.QuietTactic

import Derived.BigQuiet

set_option linter.unusedVariables false

set_option linter.unusedSimpArgs false

namespace Go.Proofs.Ytnphhibfiklfjaa

open Go.RowKit

/-- The counts, in a block of their own. -/
def CW (C : Nat) (w1 : World) (a b c : Int) (g : Bool) (wx : World) : Prop :=
  wx.heap[C]? = some (.cells #[.int .i64 a, .int .i64 b, .int .i64 c, .bool g] 96 (0, 0)) ∧ Keeps (fun x => x = C) w1 wx
theorem CW.cells {C : Nat} {w1 wx : World} {a b c : Int} {g : Bool} (h : CW C w1 a b c g wx) :
    (wx.cell? ⟨C, 0, none⟩ = some (.int .i64 a) ∧ wx.cell? ⟨C, 1, none⟩ = some (.int .i64 b) ∧ wx.cell? ⟨C, 2, none⟩ = some (.int .i64 c) ∧ wx.cell? ⟨C, 3, none⟩ = some (.bool g)) ∧
    (wx.frozen? ⟨C, 0, none⟩ = false ∧ wx.frozen? ⟨C, 1, none⟩ = false ∧ wx.frozen? ⟨C, 2, none⟩ = false ∧ wx.frozen? ⟨C, 3, none⟩ = false) := by
  obtain ⟨h, _⟩ := h
  simp [World.cell?, World.frozen?, h]
theorem CW.set0 {C : Nat} {w1 wx : World} {a b c : Int} {g : Bool} (h : CW C w1 a b c g wx) (a' : Int) : CW C w1 a' b c g (wx.setCell ⟨C, 0, none⟩ (.int .i64 a')) :=
  ⟨by rw [heap_set h.1]; rfl, h.2.trans' ((Keeps.refl (fun x => x = C) wx).setCell (p := ⟨C, 0, none⟩) (fun _ => rfl) _) (fun _ h _ => h)⟩
theorem CW.set1 {C : Nat} {w1 wx : World} {a b c : Int} {g : Bool} (h : CW C w1 a b c g wx) (a' : Int) : CW C w1 a a' c g (wx.setCell ⟨C, 1, none⟩ (.int .i64 a')) :=
  ⟨by rw [heap_set h.1]; rfl, h.2.trans' ((Keeps.refl (fun x => x = C) wx).setCell (p := ⟨C, 1, none⟩) (fun _ => rfl) _) (fun _ h _ => h)⟩
theorem CW.set2 {C : Nat} {w1 wx : World} {a b c : Int} {g : Bool} (h : CW C w1 a b c g wx) (a' : Int) : CW C w1 a b a' g (wx.setCell ⟨C, 2, none⟩ (.int .i64 a')) :=
  ⟨by rw [heap_set h.1]; rfl, h.2.trans' ((Keeps.refl (fun x => x = C) wx).setCell (p := ⟨C, 2, none⟩) (fun _ => rfl) _) (fun _ h _ => h)⟩
theorem CW.set3 {C : Nat} {w1 wx : World} {a b c : Int} {g : Bool} (h : CW C w1 a b c g wx) (g' : Bool) : CW C w1 a b c g' (wx.setCell ⟨C, 3, none⟩ (.bool g')) :=
  ⟨by rw [heap_set h.1]; rfl, h.2.trans' ((Keeps.refl (fun x => x = C) wx).setCell (p := ⟨C, 3, none⟩) (fun _ => rfl) _) (fun _ h _ => h)⟩
theorem CW.drew {C : Nat} {w1 wx : World} {a b c : Int} {g : Bool} (h : CW C w1 a b c g wx) : CW C w1 a b c g wx.drew := ⟨h.1, h.2.drew⟩

theorem add_depth {q : Cnt} {d : Int} {t : ByteArray} (h0 : 0 ≤ q.depth) (h1 : q.depth ≤ 64) (hd : 0 ≤ d) (hb : (q.add d t).bad d = false) : 0 ≤ (q.add d t).depth ∧ (q.add d t).depth ≤ 64 := by
  have := Cnt.good_cases hb
  simp only [Cnt.add]
  split <;> omega
theorem wlk_depth : ∀ (f : Fo) (d : Int) (c : Cnt), 0 ≤ d → 0 ≤ c.depth → c.depth ≤ 64 → (wlk f d c).2.1 = true → 0 ≤ (wlk f d c).1.depth ∧ (wlk f d c).1.depth ≤ 64
  | .nil, _, _, _, h0, h1, _ => ⟨h0, h1⟩
  | .cons k n t cs r, d, c, hd, h0, h1, ht => by
    rw [wlk] at ht ⊢
    by_cases hb : (c.add d t).bad d = true
    · simp [hb] at ht
    · simp only [hb, if_false, Bool.false_eq_true] at ht ⊢
      obtain ⟨a0, a1⟩ := add_depth h0 h1 hd (by simpa using hb)
      by_cases hk : (wlk cs (d + 1) (c.add d t)).2.1 = true
      · simp only [hk, if_true] at ht ⊢
        obtain ⟨b0, b1⟩ := wlk_depth cs (d + 1) _ (by omega) a0 a1 hk
        exact wlk_depth r d _ hd b0 b1 ht
      · simp [hk] at ht
theorem wlk1_depth {k t cs d} {c : Cnt} (hd : 0 ≤ d) (h0 : 0 ≤ c.depth) (h1 : c.depth ≤ 64) (ht : (wlk1 k t cs d c).2.1 = true) : 0 ≤ (wlk1 k t cs d c).1.depth ∧ (wlk1 k t cs d c).1.depth ≤ 64 := by
  unfold wlk1 at ht ⊢
  by_cases hb : (c.add d t).bad d = true
  · simp [hb] at ht
  · simp only [hb, if_false, Bool.false_eq_true] at ht ⊢
    obtain ⟨a0, a1⟩ := add_depth h0 h1 hd (by simpa using hb)
    exact wlk_depth cs (d + 1) _ (by omega) a0 a1 ht
/-- The loop over the kids: behind j of them. -/
def OverI (k t : ByteArray) (c : Fo) (d : Int) (q : Cnt) (j : Nat) (g : Bool) (qj : Cnt) : Prop :=
  (g = true ∧ ∃ l, wlk1 k t c d q = (qj, false, l)) ∨ (g = false ∧ (q.add d t).bad d = false ∧ ∃ lj, Part c (d + 1) (q.add d t) j qj lj ∧ qj.fit ∧ 0 ≤ qj.depth ∧ qj.depth ≤ 64)
theorem OverI.bad {k t : ByteArray} {c : Fo} {d : Int} {q : Cnt} (h : (q.add d t).bad d = true) : OverI k t c d q 0 true (q.add d t) := .inl ⟨rfl, [], by rw [wlk1, if_pos h]⟩
theorem OverI.good {k t : ByteArray} {c : Fo} {d : Int} {q : Cnt} (hq : q.fit) (h0 : 0 ≤ q.depth) (h1 : q.depth ≤ 64) (hd : 0 ≤ d) (h : (q.add d t).bad d = false) : OverI k t c d q 0 false (q.add d t) :=
  .inr ⟨rfl, h, [], Part.start _ _ _, Cnt.add_fit hq h, (add_depth h0 h1 hd h).1, (add_depth h0 h1 hd h).2⟩
theorem OverI.next {k t : ByteArray} {c : Fo} {d : Int} {q : Cnt} {j : Nat} {qj : Cnt} {k1 n1 t1 s1 r1} (hd : 0 ≤ d) (h : OverI k t c d q j false qj) (hdr : c.drop j = .cons k1 n1 t1 s1 r1) : OverI k t c d q (j + 1) (!(wlk1 k1 t1 s1 (d + 1) qj).2.1) (wlk1 k1 t1 s1 (d + 1) qj).1 := by
  rcases h with ⟨h, _⟩ | ⟨_, hb, lj, hp, hf, h0, h1⟩
  · simp at h
  · obtain ⟨⟨q2, ok, l2⟩, hr⟩ : ∃ r, wlk1 k1 t1 s1 (d + 1) qj = r := ⟨_, rfl⟩
    rw [hr]
    cases ok with
    | true =>
      have hok : (wlk1 k1 t1 s1 (d + 1) qj).2.1 = true := by rw [hr]
      have h2 := wlk1_fit hf hok
      have h3 := wlk1_depth (by omega) h0 h1 hok
      rw [hr] at h2 h3
      exact .inr ⟨rfl, hb, _, hp.step hdr hr, h2, h3.1, h3.2⟩
    | false => exact .inl ⟨rfl, _, by rw [wlk1_good hb, hp.stop hdr hr]⟩
theorem OverI.done {k t : ByteArray} {c : Fo} {d : Int} {q : Cnt} {j : Nat} {g : Bool} {qj : Cnt} (h : OverI k t c d q j g qj) (hj : g = false → c.len ≤ j) : (wlk1 k t c d q).1 = qj ∧ (!(wlk1 k t c d q).2.1) = g := by
  rcases h with ⟨rfl, l, h⟩ | ⟨rfl, hb, lj, hp, _⟩
  · rw [h]; exact ⟨rfl, rfl⟩
  · rw [wlk1_good hb, hp.done (hj rfl)]; exact ⟨rfl, rfl⟩

set_option maxRecDepth 100000 in
set_option maxHeartbeats 3200000 in
theorem over_any : ∀ (N : Nat) (k : ByteArray) (n : Int) (t : ByteArray) (c : Fo) (cp : Option Addr) (cl cc : Nat) (A : Nat → Prop) (d : Int) (q : Cnt) (C : Nat) (w w0 : World), c.nodes < N → Tv w A k t c cp cl cc → ¬ A C → CW C w0 q.nodes q.depth q.bytes false w → q.fit → 0 ≤ q.depth → q.depth ≤ 64 → 0 ≤ d → d ≤ 65 →
    Calls Try.prog 65 #[.pointer (some ⟨C, 0, none⟩), tv k n t cp cl cc, .int .i64 d] w fun e w' => e = .returned (.tuple #[]) ∧ CW C w0 (wlk1 k t c d q).1.nodes (wlk1 k t c d q).1.depth (wlk1 k t c d q).1.bytes (!(wlk1 k t c d q).2.1) w' ∧ Keeps (fun x => x = C) w w' := by
  intro N
  induction N with
  | zero => intros; omega
  | succ N ih =>
    intro k n t c cp cl cc A d q C w w0 hN h hAC hC hq hd0 hd1 hdd0 hdd1
    obtain ⟨w1, hw1⟩ : ∃ w1, w1 = w.alloc (.cells (four k n t cp cl cc) T) := ⟨_, rfl⟩
    have hCw := heap_lt hC.1
    have hK1 : Keeps (fun _ => False) w w1 := by rw [hw1]; exact (Keeps.refl _ w).alloc _
    have hs1 : w1.heap.size = w.heap.size + 1 := by rw [hw1]; simp
    have hbx : w1.heap[w.heap.size]? = some (.cells (four k n t cp cl cc) T (0, 0)) := by rw [hw1]; exact heap_alloc_new _ _
    have hC1 : CW C w1 q.nodes q.depth q.bytes false w1 := ⟨(hK1.heap hC.1), Keeps.refl _ _⟩
    have ht1 := h.next hK1
    have hCB : C ≠ w.heap.size := by omega
    obtain ⟨hq1, hq2, hq3, hq4⟩ := hq
    have hts := h.size.1
    have hlc := h.lc
    have hcm := h.cm
    obtain ⟨⟨c0, c1, c2, c3⟩, ⟨f0, f1, f2, f3⟩⟩ := hC1.cells
    have HW := Lib.hid hw1
    have HI := Lib.hid ih
    have HC := Lib.hid hC
    clear hw1 ih hC
    go_enter Try.func65, Try.ntmps65
    go_upto_region 1 with fail
    rw [← HW.out]
    go_upto_region 2 with fail
    have hC2 := hC1.set0 (q.nodes + 1)
    obtain ⟨w2, hw2⟩ : ∃ w2, w2 = w1.setCell ⟨C, 0, none⟩ (.int .i64 (q.nodes + 1)) := ⟨_, rfl⟩
    rw [← hw2] at hC2 ⊢
    clear hw2 c0 c1 c2 c3 f0 f1 f2 f3
    obtain ⟨dd, hdd⟩ : ∃ dd : Int, dd = (if q.depth < d then d else q.depth) := ⟨_, rfl⟩
    have hdd' : (q.depth < d ∧ dd = d) ∨ (d ≤ q.depth ∧ dd = q.depth) := by
      by_cases h1 : q.depth < d
      · exact .inl ⟨h1, by rw [hdd, if_pos h1]⟩
      · exact .inr ⟨by omega, by rw [hdd, if_neg h1]⟩
    have HD := Lib.hid hdd
    have HD' := Lib.hid hdd'
    have hddb : 0 ≤ dd ∧ dd ≤ 65 := by omega
    obtain ⟨hddb0, hddb1⟩ := hddb
    clear hdd hdd'
    go_cut [] from 7 (CW C w1 (q.nodes + 1) dd q.bytes false)
    case first =>
      obtain ⟨⟨c0, c1, c2, c3⟩, ⟨f0, f1, f2, f3⟩⟩ := hC2.cells
      rcases HD'.out with ⟨h1, h2⟩ | ⟨h1, h2⟩
      all_goals
        have H2 := Lib.hid h2
        clear h2
        go_wp2_with fail
        go_meet
        case rel => rw [H2.out]; exact hC2.set1 _
    case rest =>
      obtain ⟨w3, hw3⟩ : ∃ V, V = wc := ⟨_, rfl⟩
      subst hw3
      have hC3 := hcut
      clear hC2 HD' hcut
      go_upto_region 3 with fail
      go_cut [] from 7 (CW C w1 (q.nodes + 1) dd (q.bytes + t.size) false)
      case first =>
        obtain ⟨⟨c0, c1, c2, c3⟩, ⟨f0, f1, f2, f3⟩⟩ := hC3.cells
        have hb3 := (hC3.2.block _ (by omega) (Ne.symm hCB)).trans hbx
        obtain ⟨b0, b1, b2, b3, _⟩ := box4 hb3
        go_region
        all_goals
          go_wp2_with fail
          go_meet
          case rel => exact (hC3.set2 _).drew
      case rest =>
        obtain ⟨w4, hw4⟩ : ∃ V, V = wc := ⟨_, rfl⟩
        subst hw4
        have hC4 := hcut
        clear hcut
        go_upto_region 4 with fail
        have hqa : q.add d t = ⟨q.nodes + 1, dd, q.bytes + t.size⟩ := by rw [HD.out]; rfl
        have HQA := Lib.hid hqa
        clear hqa
        go_cut [] from 7 (fun wx => ∃ g, CW C w1 (q.nodes + 1) dd (q.bytes + t.size) g wx ∧ OverI k t c d q 0 g (q.add d t))
        case first =>
          obtain ⟨⟨c0, c1, c2, c3⟩, ⟨f0, f1, f2, f3⟩⟩ := hC4.cells
          have hB : Hid (∀ g, OverI k t c d q 0 g (q.add d t) → ∃ g', CW C w1 (q.nodes + 1) dd (q.bytes + t.size) g' (w4.setCell ⟨C, 3, none⟩ (.bool g)) ∧ OverI k t c d q 0 g' (q.add d t)) := Lib.hid fun g h => ⟨g, hC4.set3 g, h⟩
          by_cases hbad : (q.add d t).bad d = true
          · have hI := OverI.bad (k := k) (c := c) hbad
            have hcs := Cnt.bad_cases hbad
            have HOI := Lib.hid hI
            have hge : d ≤ dd := by have := HD.out; split at this <;> omega
            clear hI hbad hC4
            rcases hcs with h1 | ⟨h1, h2⟩ | ⟨h1, h2, h3⟩
            · go_wp2_with fail
              go_meet
              case rel => exact hB.out _ HOI.out
            · have h3 : 64 < dd := by omega
              go_wp2_with fail
              go_meet
              case rel => exact hB.out _ HOI.out
            · have h4 : dd ≤ 64 := by have := HD.out; split at this <;> omega
              go_wp2_with fail
              go_meet
              case rel => exact hB.out _ HOI.out
          · have hbad : (q.add d t).bad d = false := by simpa using hbad
            have hI := OverI.good (k := k) (c := c) ⟨hq1, hq2, hq3, hq4⟩ hd0 hd1 hdd0 hbad
            obtain ⟨h1, h2, h3⟩ := Cnt.good_cases hbad
            have HOI := Lib.hid hI
            have h4 : dd ≤ 64 := by have := HD.out; split at this <;> omega
            have HV : Hid ((decide (1024 < q.nodes + 1) || decide (64 < dd) || decide (16384 < q.bytes + (t.size : Int))) = false) := by
              show (decide (1024 < q.nodes + 1) || decide (64 < dd) || decide (16384 < q.bytes + (t.size : Int))) = false
              simp; omega
            clear hI hbad hC4
            go_wp2_with fail
            go_meet
            case rel => rw [HV.out]; exact hB.out _ HOI.out
        case rest =>
          obtain ⟨w5, hw5⟩ : ∃ V, V = wc := ⟨_, rfl⟩
          subst hw5
          obtain ⟨g0, hC5, hI5⟩ := hcut
          rw [← show (q.add d t).nodes = q.nodes + 1 by rw [HQA.out], ← show (q.add d t).depth = dd by rw [HQA.out], ← show (q.add d t).bytes = q.bytes + t.size by rw [HQA.out]] at hC5
          clear hC4
          go_wp2_with fail
          go_loopg [6] cl (fun m i W => ∃ (j : Nat) (g : Bool) (qj : Cnt), j + m = cl ∧ i = .int .i64 j ∧ OverI k t c d q j g qj ∧ CW C w1 qj.nodes qj.depth qj.bytes g W)
          case atStart => exact ⟨0, g0, _, by omega, rfl, hI5, hC5⟩
          case round =>
            obtain ⟨j, g, qj, hjm, rfl, hI, hC⟩ := hrel
            have hbr := (hC.2.block _ (by omega) (Ne.symm hCB)).trans hbx
            obtain ⟨b0, b1, b2, b3, _⟩ := box4 hbr
            obtain ⟨⟨c0, c1, c2, c3⟩, _⟩ := hC.cells
            have hfin : ∀ W : World, CW C w1 qj.nodes qj.depth qj.bytes g W → (g = false → cl ≤ j) → CW C w0 (wlk1 k t c d q).1.nodes (wlk1 k t c d q).1.depth (wlk1 k t c d q).1.bytes (!(wlk1 k t c d q).2.1) W ∧ Keeps (fun x => x = C) w W := fun W hW hj => by
              obtain ⟨e1, e2⟩ := hI.done (fun h => by rw [ht1.len]; exact hj h)
              rw [e1, e2]
              have hk : Keeps (fun x => x = C) w W := (hK1.mono (S' := fun x => x = C) fun _ h _ => h.elim).trans' hW.2 (fun _ h _ => h)
              exact ⟨⟨hW.1, HC.out.2.trans hk⟩, hk⟩
            have HF := Lib.hid hfin
            have HJ := Lib.hid hjm
            have HCr := Lib.hid hC
            have HIr := Lib.hid hI
            have hjc : j ≤ cl := by omega
            clear hI5 hC5 hjm hfin hC hI
            cases g with
            | true =>
              by_cases hlt : j < cl
              all_goals
                go_wp2_with fail
                go_end0
                exact ⟨rfl, HF.out _ HCr.out (fun h => by simp at h)⟩
            | false =>
              by_cases hlt : j < cl
              · have htr := ht1.keeps HCr.out.2 (fun b hb e => hAC (e ▸ hb))
                obtain ⟨kb, ko, rfl, hAk, hkb⟩ := htr.kids.hasAddr (by omega)
                obtain ⟨k1, n1, t1, s1, r1, hdr⟩ := Fo.drop_lt j c (by rw [ht1.len]; exact hlt)
                obtain ⟨cp1, cl1, cc1, hn1⟩ := htr.kids.at_ j hdr hlt
                have hcN1 : s1.nodes < N := by
                  have h1 := Fo.nodes_drop j c
                  rw [hdr] at h1
                  simp only [Fo.nodes] at h1
                  omega
                have hnext := HIr.out.next hdd0 hdr
                rcases HIr.out with ⟨hgg, _⟩ | ⟨_, hgood, lj, hp, hqf, hqd0, hqd1⟩
                · simp at hgg
                have hd64 := (Cnt.good_cases hgood).2.1
                have hz := HI.out k1 n1 t1 s1 cp1 cl1 cc1 A (d + 1) qj C wr w1 hcN1 hn1.tv hAC HCr.out hqf hqd0 hqd1 (by omega) (by omega)
                have HNX := Lib.hid hnext
                have a0 := hn1.c0
                have a1 := hn1.c1
                have a2 := hn1.c2
                have a3 := hn1.c3
                have hi0' : (0 : Int) ≤ (j : Int) := Int.natCast_nonneg _
                have hi1 : (j : Int) < (cl : Int) := by omega
                clear hnext hp hqf hqd0 hqd1 hdr hn1 htr hgood HF
                go_wp2_with fail
                refine hz.mono ?_
                clear hz a0 a1 a2 a3 b0 b1 b2 b3 c0 c1 c2 c3
                rintro e W ⟨rfl, hCW, hkW⟩
                have HCW := Lib.hid hCW
                clear hCW
                go_wp2_with fail
                go_roundg (gk - 1)
                case measure => have := HJ.out; omega
                case rel => exact ⟨j + 1, _, _, by have := HJ.out; omega, by go_num, HNX.out, HCW.out⟩
              · go_wp2_with fail
                go_end0
                exact ⟨rfl, HF.out _ HCr.out (fun h => by omega)⟩

set_option maxHeartbeats 400000 in
theorem rSize_any (k : ByteArray) (n : Int) (t : ByteArray) (c : Fo) (cp : Option Addr) (cl cc : Nat) (A : Nat → Prop) (w : World) (h : Tv w A k t c cp cl cc) :
    Calls Try.prog 48 #[tv k n t cp cl cc] w fun e w' => e = .returned (.tuple #[.int .i64 (sizeR k t c).1, .int .i64 (sizeR k t c).2.1, .int .i64 (sizeR k t c).2.2]) ∧ Keeps (fun _ => False) w w' := by
  obtain ⟨w1, hw1⟩ : ∃ w1, w1 = w.alloc (.cells (four k n t cp cl cc) T) := ⟨_, rfl⟩
  obtain ⟨w2, hw2⟩ : ∃ w2, w2 = w1.alloc (.cells #[.int .i64 0, .int .i64 0, .int .i64 0, .bool false] 96) := ⟨_, rfl⟩
  have hK1 : Keeps (fun _ => False) w w1 := by rw [hw1]; exact (Keeps.refl _ w).alloc _
  have hK2 : Keeps (fun _ => False) w1 w2 := by rw [hw2]; exact (Keeps.refl _ w1).alloc _
  have hs1 : w1.heap.size = w.heap.size + 1 := by rw [hw1]; simp
  have hs2 : w2.heap.size = w.heap.size + 2 := by rw [hw2]; simp [hs1]
  have hb1 : w1.heap[w.heap.size]? = some (.cells (four k n t cp cl cc) T (0, 0)) := by rw [hw1]; exact heap_alloc_new _ _
  have hb2 := hK2.heap hb1
  have hC : CW (w.heap.size + 1) w2 0 0 0 false w2 := ⟨by rw [hw2, ← hs1]; exact heap_alloc_new _ _, Keeps.refl _ _⟩
  have ht2 := h.top.next (hK1.trans hK2)
  have hz := over_any (c.nodes + 1) k n t c cp cl cc _ 1 ⟨0, 0, 0⟩ (w.heap.size + 1) w2 w2 (by omega) ht2 (by omega) hC ⟨by decide, by decide, by decide, by decide⟩ (by decide) (by decide) (by decide) (by decide)
  obtain ⟨⟨q2, bb, l2⟩, hr⟩ : ∃ r, wlk1 k t c 1 ⟨0, 0, 0⟩ = r := ⟨_, rfl⟩
  rw [hr] at hz
  have hsz : sizeR k t c = if bb then (q2.nodes, q2.depth, q2.bytes) else (1025, 65, 16385) := by
    unfold sizeR big
    rw [hr]
    cases bb <;> rfl
  rw [hsz]
  obtain ⟨b0, b1, b2, b3, _⟩ := box4 hb2
  have HW := Lib.hid hw2
  have HW1 := Lib.hid hw1
  rw [hw2, hw1] at b0 b1 b2 b3
  clear hsz hr hw1 hw2 hb1 hb2 hC ht2
  go_enter Try.func48, Try.ntmps48
  go_wp2_with fail
  rw [← HW1.out, ← HW.out]
  refine hz.mono ?_
  clear hz b0 b1 b2 b3
  rintro e W ⟨rfl, hCW, hk⟩
  obtain ⟨⟨c0, c1, c2, c3⟩, _⟩ := hCW.cells
  have hkW : Keeps (fun _ => False) w W := (hK1.trans hK2).trans' hk (fun b hb hl => by omega)
  clear hCW hk
  cases bb
  · go_wp2_with fail
    go_ret3
    exact ⟨rfl, hkW⟩
  · go_wp2_with fail
    go_quiet (fail)
    go_wp2_with fail
    go_ret3
    exact ⟨rfl, hkW.drewN _⟩
theorem rSmall_any (x : Nd) (cp : Option Addr) (cl cc : Nat) (A : Nat → Prop) (w : World) (h : Tv w A x.k x.t x.c cp cl cc) :
    Calls Try.prog 43 #[tv x.k x.n x.t cp cl cc] w fun e w' => e = .returned (.bool (decide x.small)) ∧ Keeps (fun _ => False) w w' := by
  obtain ⟨w1, hw1⟩ : ∃ w1, w1 = w.alloc (.cells (four x.k x.n x.t cp cl cc) T) := ⟨_, rfl⟩
  have hK1 : Keeps (fun _ => False) w w1 := by rw [hw1]; exact (Keeps.refl _ w).alloc _
  have hb1 : w1.heap[w.heap.size]? = some (.cells (four x.k x.n x.t cp cl cc) T (0, 0)) := by rw [hw1]; exact heap_alloc_new _ _
  have hz := rSize_any x.k x.n x.t x.c cp cl cc _ w1 (h.next hK1)
  obtain ⟨⟨a, b, c⟩, hr⟩ : ∃ r, sizeR x.k x.t x.c = r := ⟨_, rfl⟩
  rw [hr] at hz
  have ha : (a ≤ 1024 ∧ decide x.small = true) ∨ (1024 < a ∧ decide x.small = false) := by
    rw [sizeR_eq] at hr
    by_cases hs : x.small
    · rw [if_pos hs] at hr
      simp only [Prod.mk.injEq] at hr
      have := hs.1
      exact .inl ⟨by omega, by simp [hs]⟩
    · rw [if_neg hs] at hr
      simp only [Prod.mk.injEq] at hr
      exact .inr ⟨by omega, by simp [hs]⟩
  obtain ⟨b0, b1, b2, b3, _⟩ := box4 hb1
  have HW1 := Lib.hid hw1
  rw [hw1] at b0 b1 b2 b3
  clear hr hw1 hb1
  rcases ha with ⟨ha, hs⟩ | ⟨ha, hs⟩
  all_goals
    rw [hs]
    clear hs
    go_enter Try.func43, Try.ntmps43
    go_wp2_with fail
    rw [← HW1.out]
    refine hz.mono ?_
    clear hz b0 b1 b2 b3
    rintro e W ⟨rfl, hk⟩
    go_wp2_with fail
    go_ret
    exact ⟨by simp <;> omega, hK1.trans hk⟩
end Go.Proofs.Ytnphhibfiklfjaa
