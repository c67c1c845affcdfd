/-
  espalierlaw24.MatchAll: its walk.
-/
import Derived.Test.YtccoihmibkpedaaPkM

import Derived.Test.YtccoihmibkpedaaPkO

import Derived.Test.YtccoihmibkpedaaMBeg

import Derived.Deep.RegionHeld3

import Derived.BigQuiet

set_option linter.unusedVariables false

set_option linter.unusedSimpArgs false

namespace Go.Proofs.Ytccoihmibkpedaa

open Go.RowKit

/-- Two trees' copies in boxes. -/
def TwoB (p t : Nd) (V : World) (v6 v7 : Value) (W : World) : Prop :=
  ∃ b6 b7 cp cl cc tp tl tc, v6 = .pointer (some ⟨b6, 0, none⟩) ∧ v7 = .pointer (some ⟨b7, 0, none⟩) ∧ V.heap.size ≤ b6 ∧ V.heap.size ≤ b7 ∧ W.heap[b6]? = some (.cells (four p.k p.n p.t cp cl cc) T (0, 0)) ∧ W.heap[b7]? = some (.cells (four t.k t.n t.t tp tl tc) T (0, 0)) ∧
    (∃ A, Tv W A p.k p.t p.c cp cl cc ∧ MarkT W A p.c cp cl cc) ∧ (∃ A, Tv W A t.k t.t t.c tp tl tc ∧ MarkT W A t.c tp tl tc) ∧ Keeps (fun _ => False) V W
theorem z0_box {W W1 : World} (hk : Keeps (fun _ => False) (W.alloc Z0).drew W1) : W1.heap[W.heap.size]? = some (.cells (four e0 0 e0 none 0 0) T (0, 0)) := z0_cells hk
theorem z0_box' {W W1 : World} (hk : Keeps (fun _ => False) (W.alloc Z0) W1) : W1.heap[W.heap.size]? = some (.cells (four e0 0 e0 none 0 0) T (0, 0)) := hk.heap (heap_alloc_new W _)
theorem z00_box' {W W1 : World} (hk : Keeps (fun _ => False) ((W.alloc Z0).alloc Z0) W1) : W1.heap[W.heap.size]? = some (.cells (four e0 0 e0 none 0 0) T (0, 0)) ∧ W1.heap[W.heap.size + 1]? = some (.cells (four e0 0 e0 none 0 0) T (0, 0)) := by
  refine ⟨((((Keeps.refl (fun _ => False) _).alloc Z0).trans hk).heap (heap_alloc_new W _)), hk.heap ?_⟩
  have := heap_alloc_new (W.alloc Z0) Z0
  simpa using this
theorem z00_box {W W1 : World} (hk : Keeps (fun _ => False) ((W.alloc Z0).alloc Z0).drew W1) : W1.heap[W.heap.size]? = some (.cells (four e0 0 e0 none 0 0) T (0, 0)) ∧ W1.heap[W.heap.size + 1]? = some (.cells (four e0 0 e0 none 0 0) T (0, 0)) := z00_box' ((Keeps.drew (Keeps.refl _ _)).trans hk)
abbrev S4 (W : World) (b : Nat) (k : ByteArray) (n : Int) (t : ByteArray) (cp : Option Addr) (cl cc : Nat) : World := ((((W.setCell ⟨b, 0, none⟩ (.string k)).setCell ⟨b, 1, none⟩ (.int .i64 n)).setCell ⟨b, 2, none⟩ (.string t)).setCell ⟨b, 3, none⟩ (.slice cp cl cc))
theorem S4_heap {W : World} {b : Nat} (h : W.heap[b]? = some (.cells (four e0 0 e0 none 0 0) T (0, 0))) (k : ByteArray) (n : Int) (t : ByteArray) (cp : Option Addr) (cl cc : Nat) : (S4 W b k n t cp cl cc).heap[b]? = some (.cells (four k n t cp cl cc) T (0, 0)) := by
  rw [heap_set (heap_set (heap_set (heap_set h _ _) _ _) _ _) _ _]; rfl
section

variable {p t : Nd} {V W2 : World} {b c : Nat} {xp yp : Option Addr} {xl xc yl yc : Nat} {A1 A2 : Nat → Prop}

theorem TwoB.core {Wf : World} (hk : Keeps (fun _ => False) V W2) (hx1 : Tv W2 A1 p.k p.t p.c xp xl xc) (hx2 : MarkT W2 A1 p.c xp xl xc) (hy1 : Tv W2 A2 t.k t.t t.c yp yl yc) (hy2 : MarkT W2 A2 t.c yp yl yc)
    (h6 : Wf.heap[b]? = some (.cells (four p.k p.n p.t xp xl xc) T (0, 0))) (h7 : Wf.heap[c]? = some (.cells (four t.k t.n t.t yp yl yc) T (0, 0))) (hks : Keeps (fun x => x = b ∨ x = c) W2 Wf) (hb : V.heap.size ≤ b) (hc : V.heap.size ≤ c)
    (hA1 : ∀ x, A1 x → x ≠ b ∧ x ≠ c) (hA2 : ∀ x, A2 x → x ≠ b ∧ x ≠ c) : TwoB p t V (.pointer (some ⟨b, 0, none⟩)) (.pointer (some ⟨c, 0, none⟩)) Wf :=
  ⟨b, c, xp, xl, xc, yp, yl, yc, rfl, rfl, hb, hc, h6, h7, ⟨A1, hx1.keeps hks (fun x hx e => by have := hA1 x hx; omega), hx2.keeps hks (fun x hx e => by have := hA1 x hx; omega)⟩, ⟨A2, hy1.keeps hks (fun x hx e => by have := hA2 x hx; omega), hy2.keeps hks (fun x hx e => by have := hA2 x hx; omega)⟩, hk.trans' hks (fun x hx hl => by omega)⟩
theorem TwoB.a1 (hk : Keeps (fun _ => False) V W2) (hx1 : Tv W2 A1 p.k p.t p.c xp xl xc) (hx2 : MarkT W2 A1 p.c xp xl xc) (hy1 : Tv W2 A2 t.k t.t t.c yp yl yc) (hy2 : MarkT W2 A2 t.c yp yl yc)
    (hA1 : ∀ x, A1 x → x < W2.heap.size) (hA2 : ∀ x, A2 x → x < W2.heap.size) : TwoB p t V (.pointer (some ⟨W2.heap.size, 0, none⟩)) (.pointer (some ⟨W2.heap.size + 1, 0, none⟩)) ((W2.alloc (.cells (four p.k p.n p.t xp xl xc) T)).alloc (.cells (four t.k t.n t.t yp yl yc) T)) := by
  have hs := hk.size
  have hh := heap_alloc_new (W2.alloc (.cells (four p.k p.n p.t xp xl xc) T)) (.cells (four t.k t.n t.t yp yl yc) T)
  exact TwoB.core hk hx1 hx2 hy1 hy2 (((Keeps.refl (fun _ => False) _).alloc _).heap (heap_alloc_new _ _)) (by simpa using hh) (((Keeps.refl _ W2).alloc _).alloc _) hs (by omega) (fun x hx => by have := hA1 x hx; omega) (fun x hx => by have := hA2 x hx; omega)
theorem TwoB.a2 (hk : Keeps (fun _ => False) V W2) (hx1 : Tv W2 A1 p.k p.t p.c xp xl xc) (hx2 : MarkT W2 A1 p.c xp xl xc) (hy1 : Tv W2 A2 t.k t.t t.c yp yl yc) (hy2 : MarkT W2 A2 t.c yp yl yc)
    (hA1 : ∀ x, A1 x → x < W2.heap.size) (hA2 : ∀ x, A2 x → x < W2.heap.size) : TwoB p t V (.pointer (some ⟨W2.heap.size + 1, 0, none⟩)) (.pointer (some ⟨W2.heap.size, 0, none⟩)) ((W2.alloc (.cells (four t.k t.n t.t yp yl yc) T)).alloc (.cells (four p.k p.n p.t xp xl xc) T)) := by
  have hs := hk.size
  have hh := heap_alloc_new (W2.alloc (.cells (four t.k t.n t.t yp yl yc) T)) (.cells (four p.k p.n p.t xp xl xc) T)
  exact TwoB.core hk hx1 hx2 hy1 hy2 (by simpa using hh) (((Keeps.refl (fun _ => False) _).alloc _).heap (heap_alloc_new _ _)) (((Keeps.refl _ W2).alloc _).alloc _) (by omega) hs (fun x hx => by have := hA1 x hx; omega) (fun x hx => by have := hA2 x hx; omega)
theorem S4_keeps (W : World) (b : Nat) (k : ByteArray) (n : Int) (t : ByteArray) (cp : Option Addr) (cl cc : Nat) : Keeps (fun x => x = b) W (S4 W b k n t cp cl cc) := Keeps.four W b _ _ _ _
theorem TwoB.b1 (hk : Keeps (fun _ => False) V W2) (hx1 : Tv W2 A1 p.k p.t p.c xp xl xc) (hx2 : MarkT W2 A1 p.c xp xl xc) (hy1 : Tv W2 A2 t.k t.t t.c yp yl yc) (hy2 : MarkT W2 A2 t.c yp yl yc)
    (hz : W2.heap[b]? = some (.cells (four e0 0 e0 none 0 0) T (0, 0))) (hb : V.heap.size ≤ b) (hA1 : ∀ x, A1 x → x < W2.heap.size ∧ x ≠ b) (hA2 : ∀ x, A2 x → x < W2.heap.size ∧ x ≠ b) :
    TwoB p t V (.pointer (some ⟨b, 0, none⟩)) (.pointer (some ⟨W2.heap.size, 0, none⟩)) ((S4 W2 b p.k p.n p.t xp xl xc).alloc (.cells (four t.k t.n t.t yp yl yc) T)) := by
  have hs := hk.size
  have hl := heap_lt hz
  have hh := heap_alloc_new (S4 W2 b p.k p.n p.t xp xl xc) (.cells (four t.k t.n t.t yp yl yc) T)
  have h4 := S4_keeps W2 b p.k p.n p.t xp xl xc
  have he : (S4 W2 b p.k p.n p.t xp xl xc).heap.size = W2.heap.size := by simp [S4]
  rw [he] at hh
  exact TwoB.core hk hx1 hx2 hy1 hy2 (((Keeps.refl (fun _ => False) _).alloc _).heap (S4_heap hz ..)) hh ((h4.mono (fun x hx _ => .inl hx)).alloc _) hb hs (fun x hx => by have := hA1 x hx; omega) (fun x hx => by have := hA2 x hx; omega)
theorem TwoB.b2 (hk : Keeps (fun _ => False) V W2) (hx1 : Tv W2 A1 p.k p.t p.c xp xl xc) (hx2 : MarkT W2 A1 p.c xp xl xc) (hy1 : Tv W2 A2 t.k t.t t.c yp yl yc) (hy2 : MarkT W2 A2 t.c yp yl yc)
    (hz : W2.heap[c]? = some (.cells (four e0 0 e0 none 0 0) T (0, 0))) (hb : V.heap.size ≤ c) (hA1 : ∀ x, A1 x → x < W2.heap.size ∧ x ≠ c) (hA2 : ∀ x, A2 x → x < W2.heap.size ∧ x ≠ c) :
    TwoB p t V (.pointer (some ⟨W2.heap.size, 0, none⟩)) (.pointer (some ⟨c, 0, none⟩)) ((S4 W2 c t.k t.n t.t yp yl yc).alloc (.cells (four p.k p.n p.t xp xl xc) T)) := by
  have hs := hk.size
  have hl := heap_lt hz
  have hh := heap_alloc_new (S4 W2 c t.k t.n t.t yp yl yc) (.cells (four p.k p.n p.t xp xl xc) T)
  have h4 := S4_keeps W2 c t.k t.n t.t yp yl yc
  have he : (S4 W2 c t.k t.n t.t yp yl yc).heap.size = W2.heap.size := by simp [S4]
  rw [he] at hh
  exact TwoB.core hk hx1 hx2 hy1 hy2 hh (((Keeps.refl (fun _ => False) _).alloc _).heap (S4_heap hz ..)) ((h4.mono (fun x hx _ => .inr hx)).alloc _) hs hb (fun x hx => by have := hA1 x hx; omega) (fun x hx => by have := hA2 x hx; omega)
theorem TwoB.c1 (hk : Keeps (fun _ => False) V W2) (hx1 : Tv W2 A1 p.k p.t p.c xp xl xc) (hx2 : MarkT W2 A1 p.c xp xl xc) (hy1 : Tv W2 A2 t.k t.t t.c yp yl yc) (hy2 : MarkT W2 A2 t.c yp yl yc)
    (hz : W2.heap[b]? = some (.cells (four e0 0 e0 none 0 0) T (0, 0))) (hz' : W2.heap[c]? = some (.cells (four e0 0 e0 none 0 0) T (0, 0))) (hb : V.heap.size ≤ b) (hc : V.heap.size ≤ c) (hbc : b ≠ c) (hA1 : ∀ x, A1 x → x ≠ b ∧ x ≠ c) (hA2 : ∀ x, A2 x → x ≠ b ∧ x ≠ c) :
    TwoB p t V (.pointer (some ⟨b, 0, none⟩)) (.pointer (some ⟨c, 0, none⟩)) (S4 (S4 W2 b p.k p.n p.t xp xl xc) c t.k t.n t.t yp yl yc) := by
  have h4 := S4_keeps W2 b p.k p.n p.t xp xl xc
  have h5 := S4_keeps (S4 W2 b p.k p.n p.t xp xl xc) c t.k t.n t.t yp yl yc
  have q1 := S4_heap hz p.k p.n p.t xp xl xc
  have q2 := (h5.block b (heap_lt q1) (fun e => hbc e)).trans q1
  have q3 := (h4.block c (heap_lt hz') (fun e => hbc e.symm)).trans hz'
  exact TwoB.core hk hx1 hx2 hy1 hy2 q2 (S4_heap q3 ..) ((h4.mono (fun x hx _ => .inl hx)).trans (h5.mono (fun x hx _ => .inr hx))) hb hc hA1 hA2
end

theorem MOB.opIn {w W : World} {kd : Int} {p t : Nd} {bs : List Bind} {cp tp : Option Addr} {cl cc tl tc : Nat} {bp : Option Addr} {bl bc : Nat} (h : MOB w W kd p t bs cp tp cl cc tl tc bp bl bc) (h1 : bl ≤ bc) (h2 : bc ≤ 9223372036854775807) : MOpIn W p t bs cp tp cl cc tl tc bp bl bc := ⟨h.ap, h.at', h.ab, h1, h2⟩
theorem mlightF_parts {p t : Nd} {bs : List Bind} (h : mlightF p t bs = true) : p.c.nodes ≤ 3000 ∧ t.c.nodes ≤ 3000 ∧ bs.length < 50 ∧ ∀ e ∈ bs, e.2.c.nodes ≤ 3000 := by
  unfold mlightF at h
  simp only [Bool.and_eq_true, decide_eq_true_eq, List.all_eq_true] at h
  obtain ⟨⟨⟨h1, h2⟩, h3⟩, h4⟩ := h
  exact ⟨lightN_nodes p h1, lightN_nodes t h2, h3, fun e he => lightN_nodes e.2 (h4 e he)⟩
set_option maxRecDepth 100000 in
set_option maxHeartbeats 12800000 in
theorem matchAll_any (sp : Option Addr) (sl sc : Nat) (w : World) (h : MOps w sp sl) (hsl : sl ≤ sc) (hsc : sc ≤ 9223372036854775807) :
    Calls Try.prog 3 #[.slice sp sl sc] w fun e w' => e = .returned (.bool true) ∧ Keeps (fun _ => False) w w' := by
  have hbg := mbegun_any w
  have HH := Lib.hid h
  clear h
  go_enter Try.func3, Try.ntmps3
  go_wp2_with fail
  refine hbg.mono ?_
  clear hbg
  rintro e w1 ⟨rfl, hk1⟩
  go_wp2_with fail
  go_loopg [3] sl (fun m i W => ∃ j : Nat, j + m = sl ∧ i = .int .i64 j ∧ j ≤ 100 ∧ Keeps (fun _ => False) w W)
  case atStart => exact ⟨0, by omega, rfl, by omega, hk1⟩
  case round =>
    obtain ⟨w0, hw0⟩ : ∃ X, X = wr := ⟨_, rfl⟩
    subst hw0
    obtain ⟨j, hjm, rfl, hj5, hk⟩ := hrel
    have HJ := Lib.hid hjm
    have HK := Lib.hid hk
    clear hjm hk hk1
    by_cases hlt : j < sl
    · by_cases hj2 : j < 100
      · obtain ⟨ab, ao, rfl, hab, kd, p, t, bs, cp, tp, cl, cc, tl, tc, bp, bl, bc, hop⟩ := HH.out j hlt
        have hopr := hop.next hab HK.out
        obtain ⟨W1, hW1⟩ : ∃ W1, W1 = w0.alloc (.cells (mopc kd p t cp tp cl cc tl tc bp bl bc) MT) := ⟨_, rfl⟩
        have hT : MOB w0 W1 kd p t bs cp tp cl cc tl tc bp bl bc := by rw [hW1]; exact hopr.opIn.start
        obtain ⟨c0, c1, c2, c3, c4, c5, c6, c7, c8, c9⟩ := (⟨hopr.c0, hopr.c1, hopr.c2, hopr.c3, hopr.c4, hopr.c5, hopr.c6, hopr.c7, hopr.c8, hopr.c9⟩ : _ ∧ _ ∧ _ ∧ _ ∧ _ ∧ _ ∧ _ ∧ _ ∧ _ ∧ _)
        have hi0 : (0 : Int) ≤ (j : Int) := Int.natCast_nonneg _
        have hi1 : (j : Int) < (sl : Int) := by omega
        have hbc1 := hop.bc1
        have hbc2 := hop.bc2
        have hsh := hop.short
        have HBL := Lib.hid hop.ab.len
        have HW1 := Lib.hid hW1
        clear hW1 hopr hop
        go_upto_region 7 with fail
        rw [← HW1.out]
        obtain ⟨A1, h1⟩ := hT.ap
        obtain ⟨A2, h2⟩ := hT.at'
        obtain ⟨A3, h3⟩ := hT.ab
        have hz := mlight_any kd p t bs cp tp bp cl cc tl tc bl bc _ _ _ W1 h1 h2 h3 hbc1 hbc2
        obtain ⟨m, hm⟩ : ∃ m, mlightF p t bs = m := ⟨_, rfl⟩
        rw [hm] at hz
        have HM := Lib.hid hm
        obtain ⟨⟨o0, o9⟩, ⟨a0, a1, a2, a3⟩, ⟨b0, b1, b2, b3⟩⟩ := mbox hT.box
        clear hm c0 c1 c2 c3 c4 c5 c6 c7 c8 c9 h1 h2 h3
        go_wp2_with fail
        refine hz.mono ?_
        clear hz o0 o9 a0 a1 a2 a3 b0 b1 b2 b3
        rintro e V ⟨rfl, hkV⟩
        have hV := hT.next hkV
        clear hT hkV HW1
        cases m with
        | false =>
          have hz := mplays_any kd p t bs cp tp cl cc tl tc bp bl bc V (hV.opIn hbc1 hbc2) hsh
          obtain ⟨⟨o0, o9⟩, ⟨a0, a1, a2, a3⟩, ⟨b0, b1, b2, b3⟩⟩ := mbox hV.box
          go_wp2_with fail
          refine hz.mono ?_
          clear hz o0 o9 a0 a1 a2 a3 b0 b1 b2 b3
          rintro e V2 ⟨rfl, hk2⟩
          have hkF := Lib.hid ((HK.out.trans hV.keeps).trans hk2)
          clear hk2 hV
          go_wp2_with fail
          go_roundg (gk - 1)
          case measure => have := HJ.out; omega
          case rel => exact ⟨j + 1, by have := HJ.out; omega, by go_num, by omega, hkF.out⟩
        | true =>
          obtain ⟨hn1, hn2, hn3, hn4⟩ := mlightF_parts HM.out
          have hP : Hid (∀ W, Keeps (fun _ => False) V W → Calls Try.prog 12 #[tv p.k p.n p.t cp cl cc] W (TwinM p.k p.n p.t p.c W)) := Lib.hid fun W hk => by
            obtain ⟨A, h⟩ := (hV.next hk).ap
            exact Twin_any (p.c.nodes + 1) (by omega) p.k p.n p.t p.c _ cp cl cc W (by omega) h
          have hQ : Hid (∀ W, Keeps (fun _ => False) V W → Calls Try.prog 12 #[tv t.k t.n t.t tp tl tc] W (TwinM t.k t.n t.t t.c W)) := Lib.hid fun W hk => by
            obtain ⟨A, h⟩ := (hV.next hk).at'
            exact Twin_any (t.c.nodes + 1) (by omega) t.k t.n t.t t.c _ tp tl tc W (by omega) h
          have HN1 := Lib.hid hn1
          have HN2 := Lib.hid hn2
          have HN3 := Lib.hid hn3
          have HN4 := Lib.hid hn4
          have HV := Lib.hid hV
          clear hn1 hn2 hn3 hn4 HM
          go_upto_region 11 with fail
          go_cut [6, 7] from 16 (TwoB p t V)
          case first =>
            obtain ⟨_, ⟨a0, a1, a2, a3⟩, ⟨b0, b1, b2, b3⟩⟩ := mbox hV.box
            have HS : Hid (∀ W, Keeps (fun _ => False) V W → (W.cell? ⟨w0.heap.size, 1, none⟩ = some (.string p.k) ∧ W.cell? ⟨w0.heap.size, 2, none⟩ = some (.int .i64 p.n) ∧ W.cell? ⟨w0.heap.size, 3, none⟩ = some (.string p.t) ∧ W.cell? ⟨w0.heap.size, 4, none⟩ = some (.slice cp cl cc)) ∧ (W.cell? ⟨w0.heap.size, 5, none⟩ = some (.string t.k) ∧ W.cell? ⟨w0.heap.size, 6, none⟩ = some (.int .i64 t.n) ∧ W.cell? ⟨w0.heap.size, 7, none⟩ = some (.string t.t) ∧ W.cell? ⟨w0.heap.size, 8, none⟩ = some (.slice tp tl tc))) := Lib.hid fun W hk => (mbox (hV.next hk).box).2
            have hk : Keeps (fun _ => False) V V := Keeps.refl _ _
            clear hV HK HBL HH HJ HN1 HN2 HN3 HN4 HV hbc1 hbc2 hsh hi0 hi1 hlt hj2 hj5
            go_region_held3 (fun W' => (W'.cell? ⟨w0.heap.size, 1, none⟩ = some (.string p.k) ∧ W'.cell? ⟨w0.heap.size, 2, none⟩ = some (.int .i64 p.n) ∧ W'.cell? ⟨w0.heap.size, 3, none⟩ = some (.string p.t) ∧ W'.cell? ⟨w0.heap.size, 4, none⟩ = some (.slice cp cl cc)) ∧ (W'.cell? ⟨w0.heap.size, 5, none⟩ = some (.string t.k) ∧ W'.cell? ⟨w0.heap.size, 6, none⟩ = some (.int .i64 t.n) ∧ W'.cell? ⟨w0.heap.size, 7, none⟩ = some (.string t.t) ∧ W'.cell? ⟨w0.heap.size, 8, none⟩ = some (.slice tp tl tc))) (exact HS.out _ (by repeat' (first | with_reducible exact hk | with_reducible refine Keeps.drew ?_ | with_reducible refine Keeps.alloc ?_ _ | with_reducible refine Keeps.setCell ?_ ?_ _ | (intro hh; dsimp only at hh; omega)))) (first | (go_simp; go_at_call 12; (with_reducible change Calls _ _ #[Value.agg #[Value.string p.k, _, _, _]] _ _); refine Calls.mono (hP.out _ (by repeat' (first | with_reducible exact hk | with_reducible refine Keeps.drew ?_ | with_reducible refine Keeps.alloc ?_ _))) ?_; rintro e W1 ⟨xp, xl, xc, rfl, hx1, hx2, hkx⟩; have hk := Keeps.trans (w := V) (by repeat' (first | with_reducible exact hk | with_reducible refine Keeps.drew ?_ | with_reducible refine Keeps.alloc ?_ _)) hkx; have hsx := hkx.size; have hs1 := hk.size; (try (have hzA := z0_box (W := V) hkx; have hlA := heap_lt hzA; obtain ⟨za0, za1, za2, za3, zf0, zf1, zf2, zf3⟩ := box4 hzA)); (try (have hzAB := z00_box (W := V) hkx; obtain ⟨hzA, hzB⟩ := hzAB; have hlA := heap_lt hzA; have hlB := heap_lt hzB; obtain ⟨za0, za1, za2, za3, zf0, zf1, zf2, zf3⟩ := box4 hzA; obtain ⟨zb0, zb1, zb2, zb3, zg0, zg1, zg2, zg3⟩ := box4 hzB))) | (go_simp; go_at_call 12; (with_reducible change Calls _ _ #[Value.agg #[Value.string t.k, _, _, _]] _ _); refine Calls.mono (hQ.out _ (by repeat' (first | with_reducible exact hk | with_reducible refine Keeps.drew ?_ | with_reducible refine Keeps.alloc ?_ _))) ?_; rintro e W2 ⟨yp, yl, yc, rfl, hy1, hy2, hky⟩; have hk := Keeps.trans (w := V) (by repeat' (first | with_reducible exact hk | with_reducible refine Keeps.drew ?_ | with_reducible refine Keeps.alloc ?_ _)) hky; have hsy := hky.size; have hs2 := hk.size; (try simp only [World.size_alloc, World.size_drew] at hsy); have hk12 := Keeps.trans (w := W1) (by repeat' (first | with_reducible exact Keeps.refl _ _ | with_reducible refine Keeps.drew ?_ | with_reducible refine Keeps.alloc ?_ _)) hky; (try (have hzA := Keeps.heap hk12 hzA; have hlA := heap_lt hzA; obtain ⟨za0, za1, za2, za3, zf0, zf1, zf2, zf3⟩ := box4 hzA)); (try (have hzB := Keeps.heap hk12 hzB; have hlB := heap_lt hzB; obtain ⟨zb0, zb1, zb2, zb3, zg0, zg1, zg2, zg3⟩ := box4 hzB)); (try (have hzC := z0_box' (W := W1) hky; have hlC := heap_lt hzC; obtain ⟨zc0, zc1, zc2, zc3, zh0, zh1, zh2, zh3⟩ := box4 hzC)); (try (have hzCD := z00_box' (W := W1) hky; obtain ⟨hzC, hzD⟩ := hzCD; have hlC := heap_lt hzC; have hlD := heap_lt hzD; obtain ⟨zc0, zc1, zc2, zc3, zh0, zh1, zh2, zh3⟩ := box4 hzC; obtain ⟨zd0, zd1, zd2, zd3, zi0, zi1, zi2, zi3⟩ := box4 hzD))))
            all_goals
              go_wp2_with fail
              go_meet
              case rel =>
                have hx3 := hx1.next hk12
                have hx4 := hx2.next hk12
                have hb12 := hk12.size
                (try simp only [World.size_alloc, World.size_drew] at hx3); (try simp only [World.size_alloc, World.size_drew] at hx4); (try simp only [World.size_alloc, World.size_drew] at hy1); (try simp only [World.size_alloc, World.size_drew] at hy2)
                first
                  | (with_reducible refine TwoB.a1 hk hx3 hx4 hy1 hy2 ?_ ?_) <;> (intro x hx; omega)
                  | (with_reducible refine TwoB.a2 hk hx3 hx4 hy1 hy2 ?_ ?_) <;> (intro x hx; omega)
                  | ((with_reducible refine TwoB.b1 hk hx3 hx4 hy1 hy2 ?_ ?_ ?_ ?_) <;> (first | with_reducible exact hzA | with_reducible exact hzC | omega | (intro x hx; omega)))
                  | ((with_reducible refine TwoB.b2 hk hx3 hx4 hy1 hy2 ?_ ?_ ?_ ?_) <;> (first | with_reducible exact hzA | with_reducible exact hzC | omega | (intro x hx; omega)))
                  | ((with_reducible refine TwoB.c1 hk hx3 hx4 hy1 hy2 ?_ ?_ ?_ ?_ ?_ ?_ ?_) <;> (first | with_reducible exact hzA | with_reducible exact hzB | with_reducible exact hzC | with_reducible exact hzD | omega | (intro x hx; omega)))
          case rest =>
            obtain ⟨V2, hV2⟩ : ∃ X, X = wc := ⟨_, rfl⟩
            subst hV2
            obtain ⟨b6, b7, xp, xl, xc, yp, yl, yc, rfl, rfl, hb6, hb7, h6, h7, ⟨A5, hx1, hx2⟩, ⟨A6, hy1, hy2⟩, hk2⟩ := hcut
            have hV2 := hV.next hk2
            obtain ⟨A7, htb⟩ := hV2.ab
            have hbl : bl ≤ 1000 := by have := HN3.out; have := HBL.out; omega
            obtain ⟨i0, hi0', hz0, hz1, hz2⟩ := info_parts Try.bndInfo
            obtain ⟨⟨o0, o9⟩, _, _⟩ := mbox hV2.box
            have H6 := Lib.hid h6
            have H7 := Lib.hid h7
            have HX1 := Lib.hid hx1
            have HX2 := Lib.hid hx2
            have HY1 := Lib.hid hy1
            have HY2 := Lib.hid hy2
            have HB6 := Lib.hid hb6
            have HB7 := Lib.hid hb7
            have HK2 := Lib.hid hk2
            have HV2 := Lib.hid hV2
            clear h6 h7 hx1 hx2 hy1 hy2 hb6 hb7 hk2 hV2 hV hP hQ
            go_upto_region 12 with fail
            refine wp_region_lit ?_
            go_wp2_with (at_builtin; refine wpList_cloneB rfl _ _ _ rfl i0 _ Try.underlying27 hi0' hz0 hz1 hz2 rfl rfl bc rfl htb hbl ?_)
            intro zp zc g V3 hBK hzp hgV hz1' hz2' hk3
            clear hz0 hz1 hz2 hi0'
            have HBK := Lib.hid hBK
            have HZP := Lib.hid hzp
            have HK3 := Lib.hid hk3
            clear hBK hzp hk3 htb o0 o9
            go_wp2_with fail
            go_loopg [9] bl (fun m i W => ∃ k : Nat, k + m = bl ∧ i = .int .i64 k ∧ BK g bs k W ∧ Keeps (fun _ => False) V2 W)
            case atStart => exact ⟨0, by omega, rfl, HBK.out, HK3.out⟩
            case round =>
              obtain ⟨k, hkm, rfl, hB, hkW⟩ := hrel
              have HKM := Lib.hid hkm
              have HKW := Lib.hid hkW
              have HBB := Lib.hid hB
              have hk0 : (0 : Int) ≤ (k : Int) := Int.natCast_nonneg _
              clear hkm hkW
              by_cases hkl : k < bl
              · obtain ⟨⟨nm, x⟩, hx⟩ : ∃ e, bs[k]? = some e := ⟨_, List.getElem?_eq_getElem (by have := HBL.out; omega)⟩
                obtain ⟨hnm, np, nl, nc, d0, hnt, _⟩ := hB.all k nm x hx
                have hn4 : x.c.nodes ≤ 3000 := HN4.out (nm, x) (List.mem_of_getElem? hx)
                have hz := Twin_any (x.c.nodes + 1) (by omega) x.k x.n x.t x.c _ np nl nc _ (by omega) hnt.tv
                obtain rfl := HZP.out (by omega)
                have d1 := hnt.c0
                have d2 := hnt.c1
                have d3 := hnt.c2
                have d4 := hnt.c3
                have hi1 : (k : Int) < (bl : Int) := by omega
                have HX := Lib.hid hx
                clear hnt hx hB d0
                go_wp2_with fail
                refine hz.mono ?_
                clear hz d1 d2 d3 d4
                rintro e W4 ⟨cp2, cl2, cc2, rfl, ht2, hmk2, hk4⟩
                have hB4 := HBB.out.next hk4
                obtain ⟨cur, hcur⟩ := hB4.blk (by have := HBL.out; omega)
                obtain ⟨_, np', nl', nc', _, hnt', _⟩ := hB4.all k nm x HX.out
                have d1 := hnt'.c0
                have d2 := hnt'.c1
                have d3 := hnt'.c2
                have d4 := hnt'.c3
                have f1 : W4.frozen? ⟨g, k * 5 + 1, none⟩ = false := by simp [World.frozen?, hcur]
                have f2 : W4.frozen? ⟨g, k * 5 + 1 + 1, none⟩ = false := by simp [World.frozen?, hcur]
                have f3 : W4.frozen? ⟨g, k * 5 + 1 + 2, none⟩ = false := by simp [World.frozen?, hcur]
                have f4 : W4.frozen? ⟨g, k * 5 + 1 + 3, none⟩ = false := by simp [World.frozen?, hcur]
                have hfin := HBB.out.set hk4 HX.out ht2 hmk2
                have hkf := (HKW.out.trans hk4).trans' hfin.2 (fun b hb hl => by omega)
                have HFIN := Lib.hid hfin.1
                have HKF := Lib.hid hkf
                clear hB4 hcur hnt' hfin hkf ht2 hmk2 hk4
                go_wp2_with fail
                go_roundg (gk - 1)
                case measure => have := HKM.out; omega
                case rel => exact ⟨k + 1, by have := HKM.out; omega, by go_num, HFIN.out, HKF.out⟩
              · have hkb : k = bl := by have := HKM.out; omega
                subst hkb
                obtain ⟨w5, hw5⟩ : ∃ X, X = wr := ⟨_, rfl⟩
                subst hw5
                have hk25 := HKW.out
                have hV5 := HV2.out.next hk25
                have hbz : ∃ A, BindsAt w5 A bs zp k := by
                  have := hB.binds (bp := zp) (fun h => HZP.out (by have := HBL.out; omega)) (by have := HBL.out; omega)
                  rwa [HBL.out] at this
                have h6 := hk25.heap H6.out
                have h7 := hk25.heap H7.out
                have hz := mplays_any kd p t bs xp yp xl xc yl yc zp k zc w5 ⟨⟨_, HX1.out.next hk25⟩, ⟨_, HY1.out.next hk25⟩, hbz, hz1', hz2'⟩ (by omega)
                obtain ⟨⟨o0, o9⟩, ⟨a0, a1, a2, a3⟩, _⟩ := mbox hV5.box
                obtain ⟨p0, p1, p2, p3, _⟩ := box4 h6
                obtain ⟨q0, q1, q2, q3, _⟩ := box4 h7
                have H6 := Lib.hid h6
                have H7 := Lib.hid h7
                have HK25 := Lib.hid hk25
                have HV5 := Lib.hid hV5
                clear hbz h6 h7 hk25 hV5 hB a0 a1 a2 a3 o9
                go_wp2_with fail
                refine hz.mono ?_
                clear hz p0 p1 p2 p3 q0 q1 q2 q3 o0
                rintro e W6 ⟨rfl, hk6⟩
                have hk26 := HK25.out.trans hk6
                have hV6 := HV5.out.next hk6
                have HB6 := Lib.hid (HBB.out.next hk6)
                have h6 := hk6.heap H6.out
                have h7 := hk6.heap H7.out
                obtain ⟨A8, hap⟩ := hV6.ap
                have hz := Kept_any p xp cp xl xc cl cc A5 A8 W6 (HX1.out.next hk26) (HX2.out.next hk26) hap HN1.out
                obtain ⟨_, ⟨a0, a1, a2, a3⟩, _⟩ := mbox hV6.box
                obtain ⟨p0, p1, p2, p3, _⟩ := box4 h6
                have H7 := Lib.hid h7
                have HV6 := Lib.hid hV6
                have HK26 := Lib.hid hk26
                clear h6 h7 hV6 hk26 hk6 hap
                go_wp2_with fail
                refine hz.mono ?_
                clear hz p0 p1 p2 p3 a0 a1 a2 a3
                rintro e W7 ⟨rfl, hk7⟩
                have hk27 := HK26.out.trans hk7
                have hV7 := HV6.out.next hk7
                have HB7 := Lib.hid (HB6.out.next hk7)
                have h7 := hk7.heap H7.out
                obtain ⟨A9, hat⟩ := hV7.at'
                have hz := Kept_any t yp tp yl yc tl tc A6 A9 W7 (HY1.out.next hk27) (HY2.out.next hk27) hat HN2.out
                obtain ⟨_, _, ⟨a0, a1, a2, a3⟩⟩ := mbox hV7.box
                obtain ⟨p0, p1, p2, p3, _⟩ := box4 h7
                have HV7 := Lib.hid hV7
                have HK27 := Lib.hid hk27
                clear h7 hV7 hk27 hk7 hat
                go_wp2_with fail
                refine hz.mono ?_
                clear hz p0 p1 p2 p3 a0 a1 a2 a3
                rintro e W8 ⟨rfl, hk8⟩
                have HK28 := Lib.hid (HK27.out.trans hk8)
                have HV8 := Lib.hid (HV7.out.next hk8)
                have HB8 := Lib.hid (HB7.out.next hk8)
                clear hk8 HV6 HV7 HK26 HK27 HX1 HX2 HY1 HY2 HB6 HB7 H6 H7 HK25 HBB HKW
                go_wp2_with fail
                go_loopg [11, 12] k (fun m v i W => ∃ k2 : Nat, k2 + m = k ∧ v = .bool true ∧ i = .int .i64 k2 ∧ Keeps (fun _ => False) W8 W)
                case atStart => exact ⟨0, by omega, rfl, rfl, Keeps.refl _ _⟩
                case round =>
                  obtain ⟨w9, hw9⟩ : ∃ X, X = wr := ⟨_, rfl⟩
                  subst hw9
                  obtain ⟨k2, hkm2, rfl, rfl, hk9⟩ := hrel
                  have HKM2 := Lib.hid hkm2
                  have HK9 := Lib.hid hk9
                  have hV9 := HV8.out.next hk9
                  have hB9 := HB8.out.next hk9
                  have hk20 : (0 : Int) ≤ (k2 : Int) := Int.natCast_nonneg _
                  obtain ⟨⟨o0, o9⟩, _, _⟩ := mbox hV9.box
                  clear hkm2 hk9
                  by_cases hkl2 : k2 < k
                  · obtain ⟨⟨nm, x⟩, hx⟩ : ∃ e, bs[k2]? = some e := ⟨_, List.getElem?_eq_getElem (by have := HBL.out; omega)⟩
                    obtain ⟨hnm, np, nl, nc, d0, hnt, hnm2⟩ := hB9.all k2 nm x hx
                    have hn4 : x.c.nodes ≤ 3000 := HN4.out (nm, x) (List.mem_of_getElem? hx)
                    obtain ⟨A10, hab10⟩ := hV9.ab
                    obtain rfl := HZP.out (by omega)
                    obtain ⟨bb, bo, rfl, _, _⟩ := hab10.addr (by omega)
                    obtain ⟨_, g0, _, _, yp2, yl2, yc2, hyt⟩ := hab10.at_ hx
                    have hmk := hnm2 hkl2
                    have hz : Hid (∀ W, Keeps (fun _ => False) w9 W → Calls Try.prog 13 #[tv x.k x.n x.t np nl nc, tv x.k x.n x.t yp2 yl2 yc2] W fun e w' => e = .returned (.bool true) ∧ Keeps (fun _ => False) W w') := Lib.hid fun W hk =>
                      Kept_any x np yp2 nl nc yl2 yc2 _ _ W (hnt.tv.next hk) (hmk.next hk) (hyt.tv.next hk) hn4
                    have d1 := hnt.c0
                    have d2 := hnt.c1
                    have d3 := hnt.c2
                    have d4 := hnt.c3
                    have g1 := hyt.c0
                    have g2 := hyt.c1
                    have g3 := hyt.c2
                    have g4 := hyt.c3
                    have hi2 : (k2 : Int) < (k : Int) := by omega
                    clear hnt hyt hmk hnm2 hab10 hB9 hx
                    have HV9 := Lib.hid hV9
                    clear hV9
                    go_upto_region 22 with fail
                    go_cut [13] from 79 to 114 (fun v W => v = .bool true ∧ Keeps (fun _ => False) w9 W)
                    case first =>
                      have ko9 := fun d os => cell_regrown o9 d os
                      have kd1 := fun d os => cell_regrown d1 d os
                      have kd2 := fun d os => cell_regrown d2 d os
                      have kd3 := fun d os => cell_regrown d3 d os
                      have kd4 := fun d os => cell_regrown d4 d os
                      have kg1 := fun d os => cell_regrown g1 d os
                      have kg2 := fun d os => cell_regrown g2 d os
                      have kg3 := fun d os => cell_regrown g3 d os
                      have kg4 := fun d os => cell_regrown g4 d os
                      refine wp_region_quiet_below (by kernel_rfl) (by kernel_rfl) ?_
                      repeat (go_big_quiet_step (exact quiet_call0 hz.out))
                      refine wpQuiet_nil ?_
                      intro W8' hk8
                      have hk8 := keeps_regrown hk8
                      go_wp2_with fail
                      go_meet
                      case rel => exact ⟨rfl, hk8⟩
                    case rest =>
                      obtain ⟨w10, hw10⟩ : ∃ X, X = wc := ⟨_, rfl⟩
                      subst hw10
                      obtain ⟨rfl, hk10⟩ := hcut
                      have e0 : w10.cell? ⟨g, k2 * 5, none⟩ = some (.string nm) := (hk10.cell (p := ⟨g, k2 * 5, none⟩) (World.block_lt_of_cell? _ _ d0) (fun h => h)).trans d0
                      have e1 : w10.cell? ⟨bb, bo + k2 * 5, none⟩ = some (.string nm) := (hk10.cell (p := ⟨bb, bo + k2 * 5, none⟩) (World.block_lt_of_cell? _ _ g0) (fun h => h)).trans g0
                      obtain ⟨⟨_, e9⟩, _, _⟩ := mbox (HV9.out.next hk10).box
                      clear d0 d1 d2 d3 d4 g0 g1 g2 g3 g4 o0 o9 hz
                      go_upto_region 23 with fail
                      have ke0 := fun d os => cell_regrown e0 d os
                      have ke1 := fun d os => cell_regrown e1 d os
                      have ke9 := fun d os => cell_regrown e9 d os
                      have HKA := Lib.hid (HK9.out.trans hk10)
                      clear hk10
                      refine wp_region_quiet_below (by kernel_rfl) (by kernel_rfl) ?_
                      repeat (go_big_quiet_step (fail))
                      refine wpQuiet_nil ?_
                      intro W8' hk8
                      have HF := Lib.hid (HKA.out.trans (keeps_regrown hk8))
                      clear hk8 ke0 ke1 ke9 e0 e1 e9
                      go_wp2_with fail
                      go_roundg (gk - 1)
                      case measure => have := HKM2.out; omega
                      case rel => exact ⟨k2 + 1, by have := HKM2.out; omega, rfl, by go_num, HF.out⟩
                  · have HF := Lib.hid ((((HK.out.trans HV.out.keeps).trans HK2.out).trans HK28.out).trans HK9.out)
                    clear hV9 hB9
                    go_wp2_with fail
                    go_roundg (sl - (j + 1))
                    case measure => have := HJ.out; omega
                    case rel => exact ⟨j + 1, by have := HJ.out; omega, by go_num, by omega, HF.out⟩
      · go_wp2_with fail
        go_ret
        exact ⟨rfl, HK.out⟩
    · go_wp2_with fail
      go_ret
      exact ⟨rfl, HK.out⟩
end Go.Proofs.Ytccoihmibkpedaa
