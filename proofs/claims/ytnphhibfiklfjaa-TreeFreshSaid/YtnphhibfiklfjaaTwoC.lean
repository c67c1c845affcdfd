/-
  Two trees' copies, made in one region that draws its order, in boxes; the list of kids lies in a block that may be written.
-/
import Derived.Test.YtnphhibfiklfjaaTwinX

import Derived.Test.YtnphhibfiklfjaaPkD

set_option linter.unusedVariables false

set_option linter.unusedSimpArgs false

namespace Go.Proofs.Ytnphhibfiklfjaa

open Go.RowKit

/-- A copy by Twin: its kids' places are marked and may be written. -/
structure TM (W : World) (A : Nat → Prop) (x : Nd) (cp : Option Addr) (cl cc : Nat) : Prop where
  tv : Tv W A x.k x.t x.c cp cl cc
  mt : MarkT W A x.c cp cl cc
  gx : 0 < cl → ∃ g cur, cp = some ⟨g, 0, none⟩ ∧ A g ∧ W.heap[g]? = some (.cells cur T (0, 0)) ∧ cl * 4 ≤ cur.size
theorem TM.keeps {W W1 : World} {A S : Nat → Prop} {x : Nd} {cp : Option Addr} {cl cc : Nat} (h : TM W A x cp cl cc) (hk : Keeps S W W1) (hS : ∀ b, A b → ¬ S b) : TM W1 A x cp cl cc :=
  ⟨h.tv.keeps hk hS, h.mt.keeps hk hS, fun hl => by
    obtain ⟨g, cur, h1, h2, h3, h4⟩ := h.gx hl
    exact ⟨g, cur, h1, h2, (hk.block _ (heap_lt h3) (hS g h2)).trans h3, h4⟩⟩
theorem TM.next {W W1 : World} {A : Nat → Prop} {x : Nd} {cp : Option Addr} {cl cc : Nat} (h : TM W A x cp cl cc) (hk : Keeps (fun _ => False) W W1) : TM W1 A x cp cl cc := h.keeps hk (fun _ _ h => h)
theorem TwinM2.tm {x : Nd} {w w' : World} {e : Ending} (h : TwinM2 x.k x.n x.t x.c w e w') : ∃ cp cl cc, e = .returned (tv x.k x.n x.t cp cl cc) ∧ TM w' (fun b => w.heap.size ≤ b ∧ b < w'.heap.size) x cp cl cc ∧ Keeps (fun _ => False) w w' := by
  obtain ⟨cp, cl, cc, rfl, h1, h2, h3, h4⟩ := h
  refine ⟨cp, cl, cc, rfl, ⟨h1, h2, fun hl => ?_⟩, h3⟩
  obtain ⟨kb, ko, hca, hAk, hkb⟩ := h1.kids.hasAddr hl
  obtain ⟨g, ha, cur, h5, h6⟩ := h4 _ hca
  injection ha with ha1 ha2
  subst ha1
  subst ha2
  exact ⟨kb, cur, hca, hAk, h5, h6⟩
/-- Two trees' copies in boxes. -/
def TwoC (p t : Nd) (V : World) (v6 v7 : Value) (W : World) : Prop :=
  ∃ b6 b7 cp cl cc tp tl tc, v6 = .pointer (some ⟨b6, 0, none⟩) ∧ v7 = .pointer (some ⟨b7, 0, none⟩) ∧ V.heap.size ≤ b6 ∧ V.heap.size ≤ b7 ∧ b6 < W.heap.size ∧ b7 < W.heap.size ∧ W.heap[b6]? = some (.cells (four p.k p.n p.t cp cl cc) T (0, 0)) ∧ W.heap[b7]? = some (.cells (four t.k t.n t.t tp tl tc) T (0, 0)) ∧
    (∃ A, TM W A p cp cl cc ∧ ∀ b, A b → V.heap.size ≤ b ∧ b ≠ b6 ∧ b ≠ b7 ∧ b < W.heap.size) ∧ (∃ A, TM W A t tp tl tc ∧ ∀ b, A b → V.heap.size ≤ b ∧ b ≠ b6 ∧ b ≠ b7 ∧ b < W.heap.size) ∧ Keeps (fun _ => False) V W
theorem z0_box {W W1 : World} (hk : Keeps (fun _ => False) (W.alloc Z0).drew W1) : W1.heap[W.heap.size]? = some (.cells (four e0 0 e0 none 0 0) T (0, 0)) := z0_cells hk
theorem z0_box' {W W1 : World} (hk : Keeps (fun _ => False) (W.alloc Z0) W1) : W1.heap[W.heap.size]? = some (.cells (four e0 0 e0 none 0 0) T (0, 0)) := hk.heap (heap_alloc_new W _)
theorem z00_box' {W W1 : World} (hk : Keeps (fun _ => False) ((W.alloc Z0).alloc Z0) W1) : W1.heap[W.heap.size]? = some (.cells (four e0 0 e0 none 0 0) T (0, 0)) ∧ W1.heap[W.heap.size + 1]? = some (.cells (four e0 0 e0 none 0 0) T (0, 0)) := by
  refine ⟨((((Keeps.refl (fun _ => False) _).alloc Z0).trans hk).heap (heap_alloc_new W _)), hk.heap ?_⟩
  have := heap_alloc_new (W.alloc Z0) Z0
  simpa using this
theorem z00_box {W W1 : World} (hk : Keeps (fun _ => False) ((W.alloc Z0).alloc Z0).drew W1) : W1.heap[W.heap.size]? = some (.cells (four e0 0 e0 none 0 0) T (0, 0)) ∧ W1.heap[W.heap.size + 1]? = some (.cells (four e0 0 e0 none 0 0) T (0, 0)) := z00_box' ((Keeps.drew (Keeps.refl _ _)).trans hk)
abbrev S4 (W : World) (b : Nat) (k : ByteArray) (n : Int) (t : ByteArray) (cp : Option Addr) (cl cc : Nat) : World := ((((W.setCell ⟨b, 0, none⟩ (.string k)).setCell ⟨b, 1, none⟩ (.int .i64 n)).setCell ⟨b, 2, none⟩ (.string t)).setCell ⟨b, 3, none⟩ (.slice cp cl cc))
theorem S4_heap {W : World} {b : Nat} (h : W.heap[b]? = some (.cells (four e0 0 e0 none 0 0) T (0, 0))) (k : ByteArray) (n : Int) (t : ByteArray) (cp : Option Addr) (cl cc : Nat) : (S4 W b k n t cp cl cc).heap[b]? = some (.cells (four k n t cp cl cc) T (0, 0)) := by
  rw [heap_set (heap_set (heap_set (heap_set h _ _) _ _) _ _) _ _]; rfl
section

variable {p t : Nd} {V W2 : World} {b c : Nat} {xp yp : Option Addr} {xl xc yl yc : Nat} {A1 A2 : Nat → Prop}

theorem TwoC.core {Wf : World} (hk : Keeps (fun _ => False) V W2) (hx1 : TM W2 A1 p xp xl xc) (hy1 : TM W2 A2 t yp yl yc)
    (h6 : Wf.heap[b]? = some (.cells (four p.k p.n p.t xp xl xc) T (0, 0))) (h7 : Wf.heap[c]? = some (.cells (four t.k t.n t.t yp yl yc) T (0, 0))) (hks : Keeps (fun x => x = b ∨ x = c) W2 Wf) (hb : V.heap.size ≤ b) (hc : V.heap.size ≤ c)
    (hA1 : ∀ x, A1 x → V.heap.size ≤ x ∧ x < W2.heap.size ∧ x ≠ b ∧ x ≠ c) (hA2 : ∀ x, A2 x → V.heap.size ≤ x ∧ x < W2.heap.size ∧ x ≠ b ∧ x ≠ c) : TwoC p t V (.pointer (some ⟨b, 0, none⟩)) (.pointer (some ⟨c, 0, none⟩)) Wf :=
  ⟨b, c, xp, xl, xc, yp, yl, yc, rfl, rfl, hb, hc, heap_lt h6, heap_lt h7, h6, h7, ⟨A1, hx1.keeps hks (fun x hx e => by have := hA1 x hx; omega), fun x hx => ⟨(hA1 x hx).1, (hA1 x hx).2.2.1, (hA1 x hx).2.2.2, Nat.lt_of_lt_of_le (hA1 x hx).2.1 hks.size⟩⟩, ⟨A2, hy1.keeps hks (fun x hx e => by have := hA2 x hx; omega), fun x hx => ⟨(hA2 x hx).1, (hA2 x hx).2.2.1, (hA2 x hx).2.2.2, Nat.lt_of_lt_of_le (hA2 x hx).2.1 hks.size⟩⟩, hk.trans' hks (fun x hx hl => by omega)⟩
theorem TwoC.a1 (hk : Keeps (fun _ => False) V W2) (hx1 : TM W2 A1 p xp xl xc) (hy1 : TM W2 A2 t yp yl yc)
    (hA1 : ∀ x, A1 x → V.heap.size ≤ x ∧ x < W2.heap.size) (hA2 : ∀ x, A2 x → V.heap.size ≤ x ∧ x < W2.heap.size) : TwoC p t V (.pointer (some ⟨W2.heap.size, 0, none⟩)) (.pointer (some ⟨W2.heap.size + 1, 0, none⟩)) ((W2.alloc (.cells (four p.k p.n p.t xp xl xc) T)).alloc (.cells (four t.k t.n t.t yp yl yc) T)) := by
  have hs := hk.size
  have hh := heap_alloc_new (W2.alloc (.cells (four p.k p.n p.t xp xl xc) T)) (.cells (four t.k t.n t.t yp yl yc) T)
  exact TwoC.core hk hx1 hy1 (((Keeps.refl (fun _ => False) _).alloc _).heap (heap_alloc_new _ _)) (by simpa using hh) (((Keeps.refl _ W2).alloc _).alloc _) hs (by omega) (fun x hx => by have := hA1 x hx; omega) (fun x hx => by have := hA2 x hx; omega)
theorem TwoC.a2 (hk : Keeps (fun _ => False) V W2) (hx1 : TM W2 A1 p xp xl xc) (hy1 : TM W2 A2 t yp yl yc)
    (hA1 : ∀ x, A1 x → V.heap.size ≤ x ∧ x < W2.heap.size) (hA2 : ∀ x, A2 x → V.heap.size ≤ x ∧ x < W2.heap.size) : TwoC p t V (.pointer (some ⟨W2.heap.size + 1, 0, none⟩)) (.pointer (some ⟨W2.heap.size, 0, none⟩)) ((W2.alloc (.cells (four t.k t.n t.t yp yl yc) T)).alloc (.cells (four p.k p.n p.t xp xl xc) T)) := by
  have hs := hk.size
  have hh := heap_alloc_new (W2.alloc (.cells (four t.k t.n t.t yp yl yc) T)) (.cells (four p.k p.n p.t xp xl xc) T)
  exact TwoC.core hk hx1 hy1 (by simpa using hh) (((Keeps.refl (fun _ => False) _).alloc _).heap (heap_alloc_new _ _)) (((Keeps.refl _ W2).alloc _).alloc _) (by omega) hs (fun x hx => by have := hA1 x hx; omega) (fun x hx => by have := hA2 x hx; omega)
theorem S4_keeps (W : World) (b : Nat) (k : ByteArray) (n : Int) (t : ByteArray) (cp : Option Addr) (cl cc : Nat) : Keeps (fun x => x = b) W (S4 W b k n t cp cl cc) := Keeps.four W b _ _ _ _
theorem TwoC.b1 (hk : Keeps (fun _ => False) V W2) (hx1 : TM W2 A1 p xp xl xc) (hy1 : TM W2 A2 t yp yl yc)
    (hz : W2.heap[b]? = some (.cells (four e0 0 e0 none 0 0) T (0, 0))) (hb : V.heap.size ≤ b) (hA1 : ∀ x, A1 x → V.heap.size ≤ x ∧ x < W2.heap.size ∧ x ≠ b) (hA2 : ∀ x, A2 x → V.heap.size ≤ x ∧ x < W2.heap.size ∧ x ≠ b) :
    TwoC p t V (.pointer (some ⟨b, 0, none⟩)) (.pointer (some ⟨W2.heap.size, 0, none⟩)) ((S4 W2 b p.k p.n p.t xp xl xc).alloc (.cells (four t.k t.n t.t yp yl yc) T)) := by
  have hs := hk.size
  have hl := heap_lt hz
  have hh := heap_alloc_new (S4 W2 b p.k p.n p.t xp xl xc) (.cells (four t.k t.n t.t yp yl yc) T)
  have h4 := S4_keeps W2 b p.k p.n p.t xp xl xc
  have he : (S4 W2 b p.k p.n p.t xp xl xc).heap.size = W2.heap.size := by simp [S4]
  rw [he] at hh
  exact TwoC.core hk hx1 hy1 (((Keeps.refl (fun _ => False) _).alloc _).heap (S4_heap hz ..)) hh ((h4.mono (fun x hx _ => .inl hx)).alloc _) hb hs (fun x hx => by have := hA1 x hx; omega) (fun x hx => by have := hA2 x hx; omega)
theorem TwoC.b2 (hk : Keeps (fun _ => False) V W2) (hx1 : TM W2 A1 p xp xl xc) (hy1 : TM W2 A2 t yp yl yc)
    (hz : W2.heap[c]? = some (.cells (four e0 0 e0 none 0 0) T (0, 0))) (hb : V.heap.size ≤ c) (hA1 : ∀ x, A1 x → V.heap.size ≤ x ∧ x < W2.heap.size ∧ x ≠ c) (hA2 : ∀ x, A2 x → V.heap.size ≤ x ∧ x < W2.heap.size ∧ x ≠ c) :
    TwoC p t V (.pointer (some ⟨W2.heap.size, 0, none⟩)) (.pointer (some ⟨c, 0, none⟩)) ((S4 W2 c t.k t.n t.t yp yl yc).alloc (.cells (four p.k p.n p.t xp xl xc) T)) := by
  have hs := hk.size
  have hl := heap_lt hz
  have hh := heap_alloc_new (S4 W2 c t.k t.n t.t yp yl yc) (.cells (four p.k p.n p.t xp xl xc) T)
  have h4 := S4_keeps W2 c t.k t.n t.t yp yl yc
  have he : (S4 W2 c t.k t.n t.t yp yl yc).heap.size = W2.heap.size := by simp [S4]
  rw [he] at hh
  exact TwoC.core hk hx1 hy1 hh (((Keeps.refl (fun _ => False) _).alloc _).heap (S4_heap hz ..)) ((h4.mono (fun x hx _ => .inr hx)).alloc _) hs hb (fun x hx => by have := hA1 x hx; omega) (fun x hx => by have := hA2 x hx; omega)
theorem TwoC.c1 (hk : Keeps (fun _ => False) V W2) (hx1 : TM W2 A1 p xp xl xc) (hy1 : TM W2 A2 t yp yl yc)
    (hz : W2.heap[b]? = some (.cells (four e0 0 e0 none 0 0) T (0, 0))) (hz' : W2.heap[c]? = some (.cells (four e0 0 e0 none 0 0) T (0, 0))) (hb : V.heap.size ≤ b) (hc : V.heap.size ≤ c) (hbc : b ≠ c) (hA1 : ∀ x, A1 x → V.heap.size ≤ x ∧ x < W2.heap.size ∧ x ≠ b ∧ x ≠ c) (hA2 : ∀ x, A2 x → V.heap.size ≤ x ∧ x < W2.heap.size ∧ x ≠ b ∧ x ≠ c) :
    TwoC p t V (.pointer (some ⟨b, 0, none⟩)) (.pointer (some ⟨c, 0, none⟩)) (S4 (S4 W2 b p.k p.n p.t xp xl xc) c t.k t.n t.t yp yl yc) := by
  have h4 := S4_keeps W2 b p.k p.n p.t xp xl xc
  have h5 := S4_keeps (S4 W2 b p.k p.n p.t xp xl xc) c t.k t.n t.t yp yl yc
  have q1 := S4_heap hz p.k p.n p.t xp xl xc
  have q2 := (h5.block b (heap_lt q1) (fun e => hbc e)).trans q1
  have q3 := (h4.block c (heap_lt hz') (fun e => hbc e.symm)).trans hz'
  exact TwoC.core hk hx1 hy1 q2 (S4_heap q3 ..) ((h4.mono (fun x hx _ => .inl hx)).trans (h5.mono (fun x hx _ => .inr hx))) hb hc hA1 hA2
end

end Go.Proofs.Ytnphhibfiklfjaa
