/-
  espalierref24.fill: its walk. The trees that come lie in new memory and in what was handed in.
-/
import Derived.Test.YtccoihmibkpedaaRFits2

import Derived.Test.YtccoihmibkpedaaTwin

import Derived.Test.YtccoihmibkpedaaPkG

import Derived.Deep.RegionLaw

set_option linter.unusedVariables false

set_option linter.unusedSimpArgs false

namespace Go.Proofs.Ytccoihmibkpedaa

open Go.RowKit

attribute [local go_sem] Oper.semAt_some

/-- Trees whose kids lie in A. -/
def KRepX (w : World) (A : Nat → Prop) : Fo → List Value → Prop
  | .nil, xs => xs = []
  | .cons k n t c r, xs => ∃ cp cl cc xs', xs = .string k :: .int .i64 n :: .string t :: .slice cp cl cc :: xs' ∧ Tv w A k t c cp cl cc ∧ KRepX w A r xs'
theorem KRepX.keeps {w w1 : World} {A S : Nat → Prop} (hk : Keeps S w w1) (hA : ∀ b, A b → ¬ S b) : ∀ {f : Fo} {xs : List Value}, KRepX w A f xs → KRepX w1 A f xs
  | .nil, _, h => h
  | .cons _ _ _ _ _, _, ⟨cp, cl, cc, xs', hx, ht, hr⟩ => ⟨cp, cl, cc, xs', hx, ht.keeps hk hA, KRepX.keeps hk hA hr⟩
theorem KRepX.mono {w : World} {A A' : Nat → Prop} (hA : ∀ b, A b → A' b) : ∀ {f : Fo} {xs : List Value}, KRepX w A f xs → KRepX w A' f xs
  | .nil, _, h => h
  | .cons _ _ _ _ _, _, ⟨cp, cl, cc, xs', hx, ht, hr⟩ => ⟨cp, cl, cc, xs', hx, ht.mono hA, KRepX.mono hA hr⟩
theorem KRepX.snoc {w : World} {A : Nat → Prop} {k n t c cp cl cc} (ht : Tv w A k t c cp cl cc) : ∀ {f : Fo} {xs : List Value}, KRepX w A f xs → KRepX w A (f.snoc k n t c) (xs ++ [.string k, .int .i64 n, .string t, .slice cp cl cc])
  | .nil, _, rfl => ⟨cp, cl, cc, [], rfl, ht, rfl⟩
  | .cons _ _ _ _ _, _, ⟨cp', cl', cc', xs', rfl, ht', hr⟩ => ⟨cp', cl', cc', _, rfl, ht', KRepX.snoc ht hr⟩
theorem KRepX.kids {w : World} {A A' : Nat → Prop} (hAA : ∀ b, A b → A' b) : ∀ {f : Fo} {xs : List Value} {g o : Nat}, KRepX w A f xs → (∀ j u, xs[j]? = some u → w.cell? ⟨g, o + j, none⟩ = some u) → A' g → g < w.heap.size → f.len ≤ 9223372036854775807 → Kids w A' f (some ⟨g, o, none⟩) f.len
  | .nil, _, _, _, _, _, _, _, _ => rfl
  | .cons k n t c r, _, g, o, ⟨cp, cl, cc, xs', rfl, ht, hr⟩, hc, hA, hg, hl => by
    refine ⟨g, o, r.len, cp, cl, cc, rfl, rfl, hl, hA, hg, ht.size, ht.lc, ht.cm, hc 0 _ rfl, hc 1 _ rfl, hc 2 _ rfl, hc 3 _ rfl, ht.kids.mono hAA, ?_⟩
    refine KRepX.kids hAA hr (fun j u hu => ?_) hA hg (by simp only [Fo.len] at hl; omega)
    have := hc (j + 4) u (by simpa using hu)
    rw [show o + 4 + j = o + (j + 4) by omega]
    exact this
theorem fillFo_snoc (bs : List Bind) : ∀ (f : Fo) (k n t c), fillFo bs (f.snoc k n t c) = (fillFo bs f).snoc (fill1 bs ⟨k, n, t, c⟩).k (fill1 bs ⟨k, n, t, c⟩).n (fill1 bs ⟨k, n, t, c⟩).t (fill1 bs ⟨k, n, t, c⟩).c
  | .nil, k, n, t, c => by
    show fillFo bs (.cons k n t c .nil) = _
    rw [fillFo_cons]
    rfl
  | .cons k' n' t' c' r, k, n, t, c => by
    show fillFo bs (.cons k' n' t' c' (r.snoc k n t c)) = _
    rw [fillFo_cons, fillFo_cons, fillFo_snoc bs r]
    rfl
/-- What stands behind j rounds. tb: the tree's box. -/
structure FillI (bs : List Bind) (A' : Nat → Prop) (w W : World) (tb : Nat) (k : ByteArray) (n : Int) (t : ByteArray) (c : Fo) (j : Nat) (vp : Option Addr) (vl vc : Nat) (xs : List Value) (X : Nat → Prop) : Prop where
  u : W.heap[tb]? = some (.cells (four k n t vp vl vc) T (0, 0))
  row : W.ownsRow (tb + 1) T 4 (.slice vp vl vc) j xs
  rep : KRepX W X (fillFo bs (c.take j)) xs
  where_ : ∀ b, X b → (A' b ∨ w.heap.size ≤ b) ∧ b < W.heap.size ∧ b ≠ tb ∧ b ≠ w.heap.size + 1 ∧ (Value.slice vp vl vc).ownBlock ≠ some b
  keeps : Keeps (fun _ => False) w W
theorem rfill_step {bs : List Bind} {A' : Nat → Prop} {w W W2 w3 : World} {tb : Nat} {k : ByteArray} {n : Int} {t : ByteArray} {c : Fo} {j : Nat} {vp : Option Addr} {vl vc : Nat} {xs : List Value} {X : Nat → Prop} (hI : FillI bs A' w W tb k n t c j vp vl vc xs X) (hA' : ∀ b, A' b → b < w.heap.size) (htb : w.heap.size + 1 < tb)
    {k1 n1 t1 s1 r1} (hd : c.drop j = .cons k1 n1 t1 s1 r1) {cp1 : Option Addr} {cl1 cc1 : Nat} (hk : Keeps (fun _ => False) W W2) (ht : Tv W2 (fun b => A' b ∨ (W.heap.size ≤ b ∧ b < W2.heap.size)) (fill1 bs ⟨k1, n1, t1, s1⟩).k (fill1 bs ⟨k1, n1, t1, s1⟩).t (fill1 bs ⟨k1, n1, t1, s1⟩).c cp1 cl1 cc1)
    {o : Obj} {gg cap : Nat} (hrow : w3.ownsRow (tb + 1) T 4 (.slice (some ⟨gg, 0, none⟩) (j + 1) cap) (j + 1) (xs ++ [.string (fill1 bs ⟨k1, n1, t1, s1⟩).k, .int .i64 (fill1 bs ⟨k1, n1, t1, s1⟩).n, .string (fill1 bs ⟨k1, n1, t1, s1⟩).t, .slice cp1 cl1 cc1]))
    (hg : (W2.alloc o).grownBy w3 (Value.slice vp vl vc).ownBlock) (hat : (Value.slice vp vl vc).ownBlock = some gg ∨ gg = W2.heap.size + 1) :
    ∃ X', FillI bs A' w (w3.setCell ⟨tb, 3, none⟩ (.slice (some ⟨gg, 0, none⟩) (j + 1) cap)) tb k n t c (j + 1) (some ⟨gg, 0, none⟩) (j + 1) cap (xs ++ [.string (fill1 bs ⟨k1, n1, t1, s1⟩).k, .int .i64 (fill1 bs ⟨k1, n1, t1, s1⟩).n, .string (fill1 bs ⟨k1, n1, t1, s1⟩).t, .slice cp1 cl1 cc1]) X' := by
  have s0 := hI.keeps.size
  have s1 := hk.size
  have s3 : W2.heap.size + 1 ≤ w3.heap.size := by have := hg.size; simpa using this
  have htbW := heap_lt hI.u
  have hownlt : ∀ b, (Value.slice vp vl vc).ownBlock = some b → tb + 1 ≤ b ∧ b < W.heap.size := fun b hb => World.ownsRow.lt hI.row b hb
  have hka : Keeps (fun b => (Value.slice vp vl vc).ownBlock = some b) W2 w3 := (((Keeps.refl (fun _ => False) W2).alloc o).mono (S' := fun b => (Value.slice vp vl vc).ownBlock = some b) (fun _ h _ => h.elim)).grown hg (fun b hb _ => hb)
  have hks : Keeps (fun b => b = tb) w3 (w3.setCell ⟨tb, 3, none⟩ (.slice (some ⟨gg, 0, none⟩) (j + 1) cap)) := (Keeps.refl (fun b => b = tb) w3).setCell (p := ⟨tb, 3, none⟩) (fun _ => rfl) _
  have hgt : gg ≠ tb := by
    rcases hat with h | h
    · have := hownlt gg h; omega
    · omega
  have hgl := (hrow.lt gg rfl).2
  refine ⟨fun b => X b ∨ A' b ∨ (W.heap.size ≤ b ∧ b < W2.heap.size), ?_, ?_, ?_, ?_, ?_⟩
  · have h1 : w3.heap[tb]? = some (.cells (four k n t vp vl vc) T (0, 0)) := by
      rw [hka.block _ (by omega) (fun h => by have := hownlt tb h; omega), hk.block _ htbW (fun h => h)]
      exact hI.u
    rw [heap_set h1]
    rfl
  · refine ownsRow_same hrow (fun b hb => ?_)
    have hb : b = gg := by simpa [Value.ownBlock] using hb
    subst hb
    exact hks.block _ hgl hgt
  · rw [Fo.take_step hd, fillFo_snoc]
    have hS1 : ∀ b, (X b ∨ A' b ∨ (W.heap.size ≤ b ∧ b < W2.heap.size)) → ¬ (Value.slice vp vl vc).ownBlock = some b := fun b hb h => by
      have := hownlt b h
      rcases hb with h1 | h1 | h1
      · exact (hI.where_ b h1).2.2.2.2 h
      · have := hA' b h1; omega
      · omega
    have hS2 : ∀ b, (X b ∨ A' b ∨ (W.heap.size ≤ b ∧ b < W2.heap.size)) → ¬ b = tb := fun b hb h => by
      rcases hb with h1 | h1 | h1
      · exact (hI.where_ b h1).2.2.1 h
      · have := hA' b h1; omega
      · omega
    refine KRepX.snoc ?_ ?_
    · exact ((ht.mono (fun b hb => .inr hb)).keeps hka hS1).keeps hks hS2
    · exact (((hI.rep.keeps hk (fun _ _ h => h)).mono (fun b hb => .inl hb)).keeps hka hS1).keeps hks hS2
  · intro b hb
    have hsz : (w3.setCell ⟨tb, 3, none⟩ (.slice (some ⟨gg, 0, none⟩) (j + 1) cap)).heap.size = w3.heap.size := by simp [World.setCell]
    have hne : ∀ b, (Value.slice (some ⟨gg, 0, none⟩) (j + 1) cap).ownBlock = some b ↔ gg = b := fun b => by simp [Value.ownBlock]
    rw [hsz]
    simp only [ne_eq, hne]
    rcases hb with h1 | h1 | h1
    · obtain ⟨q1, q2, q3, q4, q5⟩ := hI.where_ b h1
      refine ⟨q1, by omega, q3, q4, fun e => ?_⟩
      subst e
      rcases hat with h | h
      · exact q5 h
      · omega
    · have := hA' b h1
      refine ⟨.inl h1, by omega, by omega, by omega, fun e => ?_⟩
      subst e
      rcases hat with h | h
      · have := hownlt _ h; omega
      · omega
    · refine ⟨.inr (by omega), by omega, by omega, by omega, fun e => ?_⟩
      subst e
      rcases hat with h | h
      · have := hownlt _ h; omega
      · omega
  · exact ((hI.keeps.trans hk).trans' hka (fun b hb hl => by have := hownlt b hb; omega)).trans' hks (fun b hb hl => by omega)
/-- What fill leaves. -/
def FillX (y : Nd) (A' : Nat → Prop) (w : World) (e : Ending) (w' : World) : Prop :=
  ∃ cp cl cc, e = .returned (tv y.k y.n y.t cp cl cc) ∧ Tv w' (fun b => A' b ∨ (w.heap.size ≤ b ∧ b < w'.heap.size)) y.k y.t y.c cp cl cc ∧ Keeps (fun _ => False) w w'
set_option maxRecDepth 100000 in
set_option maxHeartbeats 6400000 in
theorem rfill_any (bs : List Bind) (bp : Option Addr) (bl bc : Nat) (hbc : bl ≤ bc) (hbc2 : bc ≤ 9223372036854775807) : ∀ (N : Nat), N ≤ 100000 → ∀ (k : ByteArray) (n : Int) (t : ByteArray) (c : Fo) (A A' : Nat → Prop) (cp : Option Addr) (cl cc : Nat) (w : World), c.nodes < N → Tv w A k t c cp cl cc → BindsAt w A' bs bp bl → (∀ b, A' b → b < w.heap.size) →
   Calls Try.prog 65 #[tv k n t cp cl cc, .slice bp bl bc] w (FillX (fill1 bs ⟨k, n, t, c⟩) A' w) := by
  intro N
  induction N with
  | zero => intros; omega
  | succ N ih =>
    intro hN1 k n t c A A' cp cl cc w hN h hB hA'
    obtain ⟨Wp, hWp⟩ : ∃ W1, W1 = w.alloc (.cells (four k n t cp cl cc) T) := ⟨_, rfl⟩
    obtain ⟨W1, hW1⟩ : ∃ W1, W1 = Wp.alloc (.cells (four e0 0 e0 none 0 0) T) := ⟨_, rfl⟩
    have hKp : Keeps (fun _ => False) w Wp := by rw [hWp]; exact (Keeps.refl _ w).alloc _
    have hK1 : Keeps (fun _ => False) Wp W1 := by rw [hW1]; exact (Keeps.refl _ Wp).alloc _
    have hK := hKp.trans hK1
    have hsp : Wp.heap.size = w.heap.size + 1 := by rw [hWp]; simp
    have hs1 : W1.heap.size = w.heap.size + 1 + 1 := by rw [hW1]; simp [hsp]
    have hb1 : W1.heap[w.heap.size]? = some (.cells (four k n t cp cl cc) T (0, 0)) := by
      refine hK1.heap ?_
      rw [hWp]; exact heap_alloc_new _ _
    have hb2 : W1.heap[w.heap.size + 1]? = some (.cells (four e0 0 e0 none 0 0) T (0, 0)) := by rw [hW1, ← hsp]; exact heap_alloc_new _ _
    have ht1 : Tv W1 (fun b => b < w.heap.size) k t c cp cl cc := h.top.next hK
    have hB1 := hB.next hK
    have hz := rVar_any k n t c cp cl cc _ W1 ht1
    have hsz := h.size
    have hcl := h.len
    have hlcc := h.lc
    have hccm := h.cm
    obtain ⟨c0, c1, c2, c3, _⟩ := box4 hb1
    have HW : Hid (W1 = (w.alloc (.cells (four k n t cp cl cc) T)).alloc (.cells (four e0 0 e0 none 0 0) T)) := Lib.hid (by rw [hW1, hWp])
    have HIH := Lib.hid ih
    have HB1 := Lib.hid hb1
    have HB2 := Lib.hid hb2
    have HT1 := Lib.hid ht1
    have HBB := Lib.hid hB1
    have HS1 := Lib.hid hs1
    have HN := Lib.hid hN
    have HA' := Lib.hid hA'
    have HSZ := Lib.hid hsz
    have HCL := Lib.hid hcl
    clear ih hW1 hWp hb1 hb2 ht1 hs1 hN h hsp hKp hK1 hB hB1 hA' hsz hcl
    go_enter Try.func65, Try.ntmps65
    go_upto_region 1 with fail
    rw [← HW.out]
    go_wp2_with fail
    refine hz.mono ?_
    clear hz c0 c1 c2 c3
    rintro e W2 ⟨nm, rfl, hnm, hk2⟩
    have hb2 := hk2.heap HB1.out
    have hd2 := hk2.heap HB2.out
    cases hv : varF k with
    | some nm' =>
      obtain rfl := hnm nm' hv
      have hf : Hid (fill1 bs ⟨k, n, t, c⟩ = (bget bs nm).getD ⟨⟨#[]⟩, 0, ⟨#[]⟩, .nil⟩) := by show _ = _; unfold fill1; simp only [hv]
      have hz := bound_any bs nm bp bl bc _ W2 (HBB.out.next hk2) (fun b hb => by have := HA'.out b hb; have := hk2.size; have := HS1.out; omega) hbc hbc2
      rw [Option.isSome_some]
      have HK2 := Lib.hid hk2
      clear hnm hv hk2 hb2 hd2
      go_wp2_with fail
      refine hz.mono ?_
      clear hz
      rintro e W3 hbr
      have hfin : ∀ (y : Nd) (yp : Option Addr) (yl yc : Nat) (W3 : World), fill1 bs ⟨k, n, t, c⟩ = y → Tv W3 A' y.k y.t y.c yp yl yc → Keeps (fun _ => False) W2 W3 → ∃ W4, W4 = (((((W3.setCell ⟨w.heap.size + 1, 0, none⟩ (.string y.k)).setCell ⟨w.heap.size + 1, 1, none⟩ (.int .i64 y.n)).setCell ⟨w.heap.size + 1, 2, none⟩ (.string y.t)).setCell ⟨w.heap.size + 1, 3, none⟩ (.slice yp yl yc)).alloc (.cells (four y.k y.n y.t yp yl yc) T)) ∧
          (W3.cell? ⟨w.heap.size + 1, 0, none⟩ = some (.string e0) ∧ W3.cell? ⟨w.heap.size + 1, 1, none⟩ = some (.int .i64 0) ∧ W3.cell? ⟨w.heap.size + 1, 2, none⟩ = some (.string e0) ∧ W3.cell? ⟨w.heap.size + 1, 3, none⟩ = some (.slice none 0 0) ∧ W3.frozen? ⟨w.heap.size + 1, 0, none⟩ = false ∧ W3.frozen? ⟨w.heap.size + 1, 1, none⟩ = false ∧ W3.frozen? ⟨w.heap.size + 1, 2, none⟩ = false ∧ W3.frozen? ⟨w.heap.size + 1, 3, none⟩ = false) ∧
          (W4.cell? ⟨w.heap.size + 1, 0, none⟩ = some (.string y.k) ∧ W4.cell? ⟨w.heap.size + 1, 1, none⟩ = some (.int .i64 y.n) ∧ W4.cell? ⟨w.heap.size + 1, 2, none⟩ = some (.string y.t) ∧ W4.cell? ⟨w.heap.size + 1, 3, none⟩ = some (.slice yp yl yc)) ∧
          FillX (fill1 bs ⟨k, n, t, c⟩) A' w (.returned (tv y.k y.n y.t yp yl yc)) W4 := by
        intro y yp yl yc W3 hy hty hk3
        have hr3 := (HK2.out.trans hk3).heap HB2.out
        have h4 := Keeps.four W3 (w.heap.size + 1) (.string y.k) (.int .i64 y.n) (.string y.t) (.slice yp yl yc)
        obtain ⟨W4, hW4⟩ : ∃ W4, W4 = ((((W3.setCell ⟨w.heap.size + 1, 0, none⟩ (.string y.k)).setCell ⟨w.heap.size + 1, 1, none⟩ (.int .i64 y.n)).setCell ⟨w.heap.size + 1, 2, none⟩ (.string y.t)).setCell ⟨w.heap.size + 1, 3, none⟩ (.slice yp yl yc)) := ⟨_, rfl⟩
        have hbx : W4.heap[w.heap.size + 1]? = some (.cells (four y.k y.n y.t yp yl yc) T (0, 0)) := by
          rw [hW4, heap_set (heap_set (heap_set (heap_set hr3 _ _) _ _) _ _) _ _]; rfl
        rw [← hW4] at h4 ⊢
        have hka : Keeps (fun _ => False) W4 (W4.alloc (.cells (four y.k y.n y.t yp yl yc) T)) := (Keeps.refl _ W4).alloc _
        refine ⟨_, rfl, box4 hr3, ?_, ?_⟩
        · obtain ⟨r0, r1, r2, r3, _⟩ := box4 (hka.heap hbx)
          exact ⟨r0, r1, r2, r3⟩
        · rw [hy]
          exact ⟨yp, yl, yc, rfl, ((hty.keeps h4 (fun b hb e => by have := HA'.out b hb; omega)).next hka).mono (fun b hb => .inl hb), ((hK.trans (HK2.out.trans hk3)).trans' h4 (fun b hb hl => by omega)).trans hka⟩
      have HFIN := Lib.hid hfin
      clear hfin
      rcases hbr with ⟨y, yp, yl, yc, hbg, rfl, hty, hk3⟩ | ⟨hbg, rfl, hk3⟩
      · obtain ⟨W4, hW4, ⟨f0, f1, f2, f3, g0, g1, g2, g3⟩, ⟨r0, r1, r2, r3⟩, hR⟩ := HFIN.out y yp yl yc W3 (by rw [hf.out, hbg]; rfl) hty hk3
        have hy1 := heap_alloc_new W3 (.cells (four y.k y.n y.t yp yl yc) T)
        have HR := Lib.hid hR
        have HW4 := Lib.hid hW4
        have hlt3 : w.heap.size + 1 < W3.heap.size := by have := (HK2.out.trans hk3).size; have := HS1.out; omega
        clear hbg hty hk3 hW4 hR
        rw [HW4.out] at r0 r1 r2 r3
        go_wp2_with fail
        refine bodyPost_ret (v := tv y.k y.n y.t yp yl yc) (by simp [results, Try.results65, go_sem, r0, r1, r2, r3]) rfl ?_
        rw [← HW4.out]
        exact HR.out
      · obtain ⟨W4, hW4, ⟨f0, f1, f2, f3, g0, g1, g2, g3⟩, ⟨r0, r1, r2, r3⟩, hR⟩ := HFIN.out ⟨e0, 0, e0, .nil⟩ none 0 0 W3 (by rw [hf.out, hbg]; rfl) ⟨⟨by decide, by decide⟩, Nat.le_refl _, by omega, rfl⟩ hk3
        have HR := Lib.hid hR
        have HW4 := Lib.hid hW4
        have hlt3 : w.heap.size + 1 < W3.heap.size := by have := (HK2.out.trans hk3).size; have := HS1.out; omega
        clear hbg hk3 hW4 hR
        rw [HW4.out] at r0 r1 r2 r3
        go_wp2_with fail
        refine bodyPost_ret (v := tv e0 0 e0 none 0 0) (by simp [results, Try.results65, go_sem, r0, r1, r2, r3]) rfl ?_
        rw [← HW4.out]
        exact HR.out
    | none =>
      have hf : Hid (fill1 bs ⟨k, n, t, c⟩ = ⟨k, n, t, fillFo bs c⟩) := by show _ = _; unfold fill1; simp only [hv]
      obtain ⟨c0, c1, c2, c3, _⟩ := box4 hb2
      rw [Option.isSome_none]
      obtain ⟨tb, htb⟩ : ∃ b, b = W2.heap.size := ⟨_, rfl⟩
      have htb1 : w.heap.size + 1 < tb := by have := hk2.size; have := HS1.out; omega
      obtain ⟨U, hU⟩ : ∃ U, U = W2.alloc (.cells (four k n t none 0 0) T) := ⟨_, rfl⟩
      have hkU : Keeps (fun _ => False) W2 U := by rw [hU]; exact (Keeps.refl _ W2).alloc _
      have hbU : U.heap[tb]? = some (.cells (four k n t none 0 0) T (0, 0)) := by rw [hU, htb]; exact heap_alloc_new _ _
      have hI0 : FillI bs A' w U tb k n t c 0 none 0 0 [] (fun _ => False) := ⟨hbU, World.ownsRow_nil _ _ _ _, rfl, fun _ h => h.elim, (hK.trans hk2).trans hkU⟩
      have HK2 := Lib.hid (hk2.trans hkU)
      have HTB := Lib.hid htb
      have HUS : Hid (U.heap.size = tb + 1) := by show _ = _; rw [hU, htb]; simp
      have HU := Lib.hid hU
      have HI0 := Lib.hid hI0
      have hcl5 : cl ≤ 100000 := by have h1 := Fo.len_nodes c; have := HCL.out; have := HN.out; omega
      clear hnm hv hk2 hb2 hd2 htb hU hkU hbU hI0
      go_wp2_with fail
      rw [← HTB.out, ← HU.out]
      clear c0 c1 c2 c3
      go_loopg [10] cl (fun m i W => ∃ j : Nat, j + m = cl ∧ i = .int .i64 j ∧ ∃ vp vl vc xs X, FillI bs A' w W tb k n t c j vp vl vc xs X ∧ Keeps (fun b => b = tb) U W)
      case atStart => exact ⟨0, by omega, rfl, none, 0, 0, [], _, HI0.out, Keeps.refl _ _⟩
      case round =>
        obtain ⟨j, hjm, rfl, vp, vl, vc, xs, X, hI, hkr⟩ := hrel
        have hj0 : (0 : Int) ≤ (j : Int) := Int.natCast_nonneg _
        have hkr1 : Keeps (fun b => b = tb) W1 wr := (HK2.out.mono (S' := fun b => b = tb) (fun _ h _ => h.elim)).trans hkr
        have hbx : wr.heap[w.heap.size]? = some (.cells (four k n t cp cl cc) T (0, 0)) := (hkr1.block _ (by have := HS1.out; omega) (by omega)).trans HB1.out
        have hrx : wr.heap[w.heap.size + 1]? = some (.cells (four e0 0 e0 none 0 0) T (0, 0)) := (hkr1.block _ (by have := HS1.out; omega) (by omega)).trans HB2.out
        obtain ⟨c0, c1, c2, c3, _⟩ := box4 hbx
        obtain ⟨v0, v1, v2, v3, w0, w1, w2, w3⟩ := box4 hI.u
        have hvl : vl = j := row_len hI.row
        subst hvl
        have HJ := Lib.hid hjm
        have HI := Lib.hid hI
        have HKR := Lib.hid hkr
        have HKR1 := Lib.hid hkr1
        have HRX := Lib.hid hrx
        by_cases hlt : vl < cl
        · have htr := HT1.out.keeps hkr1 (fun b hb e => by omega)
          have hBr := HBB.out.keeps hkr1 (fun b hb e => by have := HA'.out b hb; omega)
          obtain ⟨kb, ko, rfl, hAk, hkb⟩ := htr.kids.hasAddr (by omega)
          obtain ⟨k1, n1, t1, s1, r1, hdr⟩ := Fo.drop_lt vl c (by rw [HCL.out]; exact hlt)
          obtain ⟨cp1, cl1, cc1, hn1⟩ := htr.kids.at_ vl hdr hlt
          have hsR := hkr1.size
          have hs1' := HS1.out
          have hown : ∀ b, (Value.slice vp vl vc).ownBlock = some b → tb + 1 ≤ b ∧ b < wr.heap.size := fun b hb => World.ownsRow.lt hI.row b hb
          have htbW := heap_lt hI.u
          have hih : ∀ W', Keeps (fun _ => False) wr W' → Calls Try.prog 65 #[tv k1 n1 t1 cp1 cl1 cc1, .slice bp bl bc] W' fun e W2 => ∃ cp2 cl2 cc2, e = .returned (tv (fill1 bs ⟨k1, n1, t1, s1⟩).k (fill1 bs ⟨k1, n1, t1, s1⟩).n (fill1 bs ⟨k1, n1, t1, s1⟩).t cp2 cl2 cc2) ∧ Hid (Tv W2 (fun b => A' b ∨ (wr.heap.size ≤ b ∧ b < W2.heap.size)) (fill1 bs ⟨k1, n1, t1, s1⟩).k (fill1 bs ⟨k1, n1, t1, s1⟩).t (fill1 bs ⟨k1, n1, t1, s1⟩).c cp2 cl2 cc2 ∧ Keeps (fun _ => False) wr W2) ∧ W2.ownsRow (tb + 1) T 4 (.slice vp vl vc) vl xs ∧
              W2.cell? ⟨tb, 3, none⟩ = some (.slice vp vl vc) ∧ W2.frozen? ⟨tb, 3, none⟩ = false ∧ tb < W2.heap.size ∧ W2.cell? ⟨w.heap.size, 3, none⟩ = some (.slice (some ⟨kb, ko, none⟩) cl cc) ∧ (W2.cell? ⟨kb, ko + vl * 4, none⟩ = some (.string k1) ∧ W2.cell? ⟨kb, ko + vl * 4 + 1, none⟩ = some (.int .i64 n1) ∧ W2.cell? ⟨kb, ko + vl * 4 + 2, none⟩ = some (.string t1) ∧ W2.cell? ⟨kb, ko + vl * 4 + 3, none⟩ = some (.slice cp1 cl1 cc1)) := by
            intro W' hk1
            refine (HIH.out (by omega) k1 n1 t1 s1 (fun b => b < w.heap.size) A' cp1 cl1 cc1 W' (by have := Tv.kidNodes hdr; have := HN.out; omega) (hn1.tv.keeps hk1 (fun _ _ h => h)) (hBr.next hk1) (fun b hb => by have := HA'.out b hb; have := hk1.size; omega)).mono ?_
            rintro e W2 ⟨cp2, cl2, cc2, rfl, ht2, hk2⟩
            have hk := hk1.trans hk2
            have e1 : ∀ i v, wr.cell? ⟨kb, i, none⟩ = some v → W2.cell? ⟨kb, i, none⟩ = some v := fun i v hv => (hk.cell (p := ⟨kb, i, none⟩) hkb (fun h => h)).trans hv
            exact ⟨cp2, cl2, cc2, rfl, ⟨ht2.mono (fun b hb => hb.imp id (fun h => ⟨by have := hk1.size; omega, h.2⟩)), hk⟩, ownsRow_same hI.row (fun x hx => hk.block x (World.ownsRow.lt hI.row x (by simpa using hx)).2 (fun h => h)),
              (hk.cell (p := ⟨tb, 3, none⟩) htbW (fun h => h)).trans v3, (hk.frozen (p := ⟨tb, 3, none⟩) htbW (fun h => h)).trans w3, by have := hk.size; omega,
              (hk.cell (p := ⟨w.heap.size, 3, none⟩) (by show w.heap.size < _; omega) (fun h => h)).trans c3, e1 _ _ hn1.c0, e1 _ _ hn1.c1, e1 _ _ hn1.c2, e1 _ _ hn1.c3⟩
          have hvb : (Value.slice vp vl vc).ownBlock ≠ some tb := fun h => by have := hown tb h; omega
          have a0 := hn1.c0
          have a1 := hn1.c1
          have a2 := hn1.c2
          have a3 := hn1.c3
          have hj : vl + 1 ≤ maxLen := by simp only [maxLen]; omega
          have hi1 : (vl : Int) < (cl : Int) := by omega
          obtain ⟨i0, hi0, hz0, hz1, hz2⟩ := info_parts Try.treeInfo
          obtain ⟨y, hy⟩ : ∃ y, fill1 bs ⟨k1, n1, t1, s1⟩ = y := ⟨_, rfl⟩
          have hstep := fun (W2 w3 : World) (cp2 : Option Addr) (cl2 cc2 : Nat) (o : Obj) (gg cap : Nat) h1 h2 h3 h4 h5 => rfill_step (o := o) (W2 := W2) (w3 := w3) (cp1 := cp2) (cl1 := cl2) (cc1 := cc2) (gg := gg) (cap := cap) hI HA'.out htb1 hdr h1 h2 h3 h4 h5
          rw [hy] at hih hstep
          have HIHH := Lib.hid hih
          have HSTEP := Lib.hid hstep
          have hkd : Keeps (fun _ => False) wr wr.drew := (Keeps.refl _ wr).drew
          clear hdr hn1 htr hBr hI hjm hkr hkr1 hbx hrx hown hih hy hstep
          go_wp2_with fail
          go_region_law (first
            | ((go_simp; go_at_call 65; refine (HIHH.out _ hkd).mono ?_; rintro e W2 ⟨cp2, cl2, cc2, rfl, hH, hown2, hU2, hf2, hs2, hc2, ha0, ha1, ha2, ha3⟩))
            | ((refine step_append_lies _ (by rfl) _ _ _ (by rfl) (tb + 1) T i0 _ 4 64 Try.underlying24 hi0 hz0 hz1 hz2 rfl (by omega) (.slice vp vl vc) vl xs (by rfl) (hown2.alloc _) ⟨W2.heap.size, 0, none⟩ 1 1 [.string y.k, .int .i64 y.n, .string y.t, .slice cp2 cl2 cc2] (by rfl) (by rfl) (World.news_of_block (cs := #[.string y.k, .int .i64 y.n, .string y.t, .slice cp2 cl2 cc2]) (t := T) (fr := (0, 0)) (heap_alloc_new W2 _)) (by simp [Value.oneCell']) (by omega) hj (by omega) (by simp; omega) (W2.heap.size + 1) (by simp) ?_; intro gg cap w3 hown3 hgrow3 hat3 hlt3; have hc3 : w3.cell? ⟨tb, 3, none⟩ = some (.slice vp vl vc) := (hgrow3.cell_far ⟨tb, 3, none⟩ (by simp; omega) (Ne.symm hvb)).trans ((World.cell?_alloc_past _ _ _ hs2).trans hU2); have hf3 : w3.frozen? ⟨tb, 3, none⟩ = false := (hgrow3.frozen_far ⟨tb, 3, none⟩ (by simp; omega) (Ne.symm hvb)).trans ((World.frozen?_alloc_past _ _ _ hs2).trans hf2))))
          all_goals go_wp2_with fail
          all_goals
            go_roundg (gk - 1)
            case measure => have := HJ.out; omega
            case rel =>
              obtain ⟨X', hX⟩ := HSTEP.out W2 w3 cp2 cl2 cc2 _ gg cap hH.2 hH.1 hown3 hgrow3 (by simpa using hat3)
              refine ⟨vl + 1, by have := HJ.out; omega, by go_num, _, _, _, _, X', hX, ?_⟩
              have hka : Keeps (fun b => (Value.slice vp vl vc).ownBlock = some b) wr w3 := ((hH.2.alloc _).mono (S' := fun b => (Value.slice vp vl vc).ownBlock = some b) (fun _ h _ => h.elim)).grown hgrow3 (fun b hb _ => hb)
              exact (HKR.out.trans' hka (fun b hb hl => by have := World.ownsRow.lt HI.out.row b hb; have := HUS.out; omega)).setCell (p := ⟨tb, 3, none⟩) (fun _ => rfl) _
        · obtain ⟨r0, r1, r2, r3, q0, q1, q2, q3⟩ := box4 hrx
          have hjc : Hid (vl = cl) := by show vl = cl; omega
          have hR : FillX (fill1 bs ⟨k, n, t, c⟩) A' w (.returned (tv k n t vp vl vc)) ((((wr.setCell ⟨w.heap.size + 1, 0, none⟩ (.string k)).setCell ⟨w.heap.size + 1, 1, none⟩ (.int .i64 n)).setCell ⟨w.heap.size + 1, 2, none⟩ (.string t)).setCell ⟨w.heap.size + 1, 3, none⟩ (.slice vp vl vc)) := by
            have h4 := Keeps.four wr (w.heap.size + 1) (.string k) (.int .i64 n) (.string t) (.slice vp vl vc)
            have hsz4 : ((((wr.setCell ⟨w.heap.size + 1, 0, none⟩ (.string k)).setCell ⟨w.heap.size + 1, 1, none⟩ (.int .i64 n)).setCell ⟨w.heap.size + 1, 2, none⟩ (.string t)).setCell ⟨w.heap.size + 1, 3, none⟩ (.slice vp vl vc)).heap.size = wr.heap.size := by simp [World.setCell]
            rw [hf.out]
            refine ⟨vp, vl, vc, rfl, ?_, HI.out.keeps.trans' h4 (fun b hb hl => by omega)⟩
            have htk : c.take vl = c := Fo.take_len (by rw [HCL.out]; omega)
            have hrep := HI.out.rep
            rw [htk] at hrep
            have hln : (fillFo bs c).len = vl := by rw [fillFo_len, HCL.out, hjc.out]
            have hkw : Kids wr (fun b => X b ∨ (Value.slice vp vl vc).ownBlock = some b) (fillFo bs c) vp vl := by
              obtain ⟨pp, cap, hv, h1, h2, h3⟩ := ownsRow_slice HI.out.row
              simp only [Value.slice.injEq] at hv
              obtain ⟨rfl, _, rfl⟩ := hv
              by_cases h0 : 0 < vl
              · obtain ⟨g, rfl⟩ := h3 h0
                have := hrep.kids (A' := fun b => X b ∨ (Value.slice (some ⟨g, 0, none⟩) vl vc).ownBlock = some b) (g := g) (o := 0) (fun b hb => .inl hb) (fun j u hu => ?_) (.inr rfl) (HI.out.row.lt g rfl).2 (by unfold maxLen at h2; omega)
                · rwa [hln] at this
                · have := HI.out.row.cells (g := g) rfl j u hu
                  rw [add0] at this
                  simpa using this
              · have h00 : vl = 0 := by omega
                have : fillFo bs c = .nil := by
                  cases hc : fillFo bs c with
                  | nil => rfl
                  | cons _ _ _ _ _ => rw [hc] at hln; simp [Fo.len] at hln; omega
                rw [this, h00]
                rfl
            obtain ⟨hcap1, hcap2⟩ : vl ≤ vc ∧ vc ≤ 9223372036854775807 := by
              obtain ⟨pp, cap, hv, h1, h2, h3⟩ := ownsRow_slice HI.out.row
              simp only [Value.slice.injEq] at hv
              obtain ⟨rfl, _, rfl⟩ := hv
              unfold maxLen at h2
              exact ⟨h1, h2⟩
            have hok : ∀ b, (X b ∨ (Value.slice vp vl vc).ownBlock = some b) → (A' b ∨ (w.heap.size ≤ b ∧ b < wr.heap.size)) ∧ b ≠ w.heap.size + 1 := fun b hb => by
              rcases hb with h | h
              · obtain ⟨x1, x2, _, x4, _⟩ := HI.out.where_ b h
                exact ⟨x1.imp id (fun h => ⟨h, x2⟩), x4⟩
              · have := World.ownsRow.lt HI.out.row b h
                exact ⟨.inr ⟨by omega, this.2⟩, by omega⟩
            have htv : Tv wr (fun b => X b ∨ (Value.slice vp vl vc).ownBlock = some b) k t (fillFo bs c) vp vl vc := ⟨HSZ.out, hcap1, hcap2, hkw⟩
            rw [hsz4]
            exact (htv.keeps h4 (fun b hb e => (hok b hb).2 e)).mono (fun b hb => (hok b hb).1)
          have hbx4 : ((((wr.setCell ⟨w.heap.size + 1, 0, none⟩ (.string k)).setCell ⟨w.heap.size + 1, 1, none⟩ (.int .i64 n)).setCell ⟨w.heap.size + 1, 2, none⟩ (.string t)).setCell ⟨w.heap.size + 1, 3, none⟩ (.slice vp vl vc)).heap[w.heap.size + 1]? = some (.cells (four k n t vp vl vc) T (0, 0)) := by
            rw [heap_set (heap_set (heap_set (heap_set hrx _ _) _ _) _ _) _ _]; rfl
          obtain ⟨z0, z1, z2, z3, _⟩ := box4 hbx4
          have HR := Lib.hid hR
          clear hR hbx4 hI hkr hkr1 hbx hrx hjm
          go_wp2_with fail
          refine bodyPost_ret (v := tv k n t vp vl vc) (by simp [results, Try.results65, go_sem, z0, z1, z2, z3]) rfl ?_
          exact HR.out
end Go.Proofs.Ytccoihmibkpedaa
