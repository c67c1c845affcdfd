/-
  Merged texts: XEach2, XBegG, XAllP, XRMay, XLight.
-/
import Derived.Test.YtnphhibfiklfjaaEach

import Derived.Test.YtnphhibfiklfjaaPkC

import Derived.Test.YtnphhibfiklfjaaPut

import Derived.Test.YtnphhibfiklfjaaOver

import Derived.Test.YtnphhibfiklfjaaPkB

set_option linter.unusedVariables false

set_option linter.unusedSimpArgs false

/-!
  tree.Each: what it hands back goes over the nodes.
-/
namespace Go.Proofs.Ytnphhibfiklfjaa

open Go.RowKit

/-- The nodes that Each goes over. -/
def eachL (x : Nd) : List (List Int × Nd) := if x.small then pre [] x else []

set_option maxRecDepth 100000 in
set_option maxHeartbeats 800000 in
theorem each2_it (k : ByteArray) (n : Int) (t : ByteArray) (c : Fo) (b o : Nat) (cp : Option Addr) (cl cc : Nat) (It : Nat → Prop) (w : World) (hc : c.nodes < 2000) (hn : NodeAt w It b o k n t c cp cl cc) (hb : It b) (hIt : ∀ x, It x → x < w.heap.size) :
    IterOK Try.prog 38 #[.pointer (some ⟨b, o, none⟩)] (pre [] ⟨k, n, t, c⟩).length (EachG (pre [] ⟨k, n, t, c⟩)) It w := by
  intro m l J Jx B0 W hJ hJx hk hB0 h0 hY
  refine callsIn_wide.2 ?_
  show Calls Try.prog 38 #[.func (.yield l) #[] #[], .pointer (some ⟨b, o, none⟩)] W _
  have hs := hk.size
  have hnW := hn.keeps hk (fun x hx h => h hx) (hIt b hb) (fun h => h hb)
  obtain ⟨W1, hW1⟩ : ∃ W1, W1 = W.alloc (.cells #[.func (.yield l) #[] #[]] 76) := ⟨_, rfl⟩
  obtain ⟨W3, hW3⟩ : ∃ W3, W3 = W1.alloc (.cells #[.func (.func 39) #[] #[.pointer (some ⟨W.heap.size, 0, none⟩), .pointer (some ⟨W.heap.size + 1, 0, none⟩)]] 78) := ⟨_, rfl⟩
  have hs1 : W1.heap.size = W.heap.size + 1 := by rw [hW1]; simp
  have hs3 : W3.heap.size = W.heap.size + 2 := by rw [hW3]; simp [hs1]
  have hK1 : Keeps (fun _ => False) W W1 := by rw [hW1]; exact (Keeps.refl _ W).alloc _
  have hK2 : Keeps (fun _ => False) W1 W3 := by rw [hW3]; exact (Keeps.refl _ W1).alloc _
  have hK : Keeps (fun _ => False) W W3 := hK1.trans hK2
  have hyb1 : W1.heap[W.heap.size]? = some (.cells #[.func (.yield l) #[] #[]] 76 (0, 0)) := by rw [hW1]; exact heap_alloc_new _ _
  have hsb3 : W3.heap[W.heap.size + 1]? = some (.cells #[.func (.func 39) #[] #[.pointer (some ⟨W.heap.size, 0, none⟩), .pointer (some ⟨W.heap.size + 1, 0, none⟩)]] 78 (0, 0)) := by rw [hW3, ← hs1]; exact heap_alloc_new _ _
  have hyb3 := (hK2.block W.heap.size (by omega) (fun h => h)).trans hyb1
  have sc : W3.cell? ⟨W.heap.size + 1, 0, none⟩ = some (.func (.func 39) #[] #[.pointer (some ⟨W.heap.size, 0, none⟩), .pointer (some ⟨W.heap.size + 1, 0, none⟩)]) := by simp [World.cell?, hsb3]
  have yc : W3.cell? ⟨W.heap.size, 0, none⟩ = some (.func (.yield l) #[] #[]) := by simp [World.cell?, hyb3]
  have hItW : ∀ x, It x → x < W.heap.size := fun x hx => by have := hIt x hx; omega
  have hdown := down_it (L := pre [] ⟨k, n, t, c⟩) (lp := l) (H0 := W.heap.size) (J := J) (Jx := Jx) (It := It) (w0 := w) hJ hJx hY W.heap.size (W.heap.size + 1) (by omega) (c.nodes + 1) (by omega) k n t c b o cp cl cc [] (.slice none 0 0)
    (fun x => It x ∨ x = W.heap.size ∨ x = W.heap.size + 1) B0 0 [] W3 (by omega) (by simp; omega) (by simp) (by omega) ((hnW.keeps hK (fun x _ h => h) (hItW b hb) (fun h => h)).mono (fun _ h => .inl h)) (.inl hb) (fun x hx => hx.elim (fun h => by have := hItW x h; omega) (fun h => by omega)) (.inr (.inl rfl)) (.inr (.inr rfl)) (fun x hx => .inl hx) (hk.trans' hK (fun _ h _ => h.elim)) yc sc
    ⟨World.ownsRow_nil _ _ _ _, fun _ => rfl⟩ (fun g hg => by simp [Value.ownBlock] at hg) (fun x hx => ⟨by have := (hB0 x hx).1; omega, fun h => h.elim (hB0 x hx).2 (fun h => by have := (hB0 x hx).1; omega), by simp [Value.ownBlock]⟩) (hJ _ _ _ _ h0 (hK.mono fun _ h _ => h.elim))
  have HW1 := Lib.hid hW1
  have HW3 := Lib.hid hW3
  have HR := Lib.hid ((pre_len [] ⟨k, n, t, c⟩).trans (show c.nodes + 1 = 0 + c.nodes + 1 by omega))
  clear hW1 hW3 hnW hyb1 hyb3 hsb3 hY hJ hJx hn sc yc
  go_enter Try.func38, Try.ntmps38
  go_wp2_with fail
  rw [← HW1.out, ← HW3.out]
  refine hdown.mono ?_
  clear hdown
  rintro e W4 ⟨r, B', rfl, h1, h2, h3, _, _⟩
  have H1 := Lib.hid h1
  have H2 := Lib.hid h2
  clear h1 h2
  go_wp2_with fail
  go_end0
  refine ⟨⟨_, rfl⟩, ⟨B', ?_⟩, ?_, ?_⟩
  · cases r with
    | true => exact .inl (by rw [HR.out]; exact H1.out rfl)
    | false => exact .inr (H2.out rfl)
  · exact hk.trans ((hK.mono fun _ h _ => h.elim).trans' h3 (fun x hx hl hI => hx (.inl hI)))
  · have := h3.size; omega
set_option maxRecDepth 100000 in
theorem each1_it (G : Nat → Array Value → (Nat → Prop) → World → Prop) (It : Nat → Prop) (w : World) : IterOK Try.prog 36 #[] 0 G It w := by
  intro m l J Jx B0 W hJ hJx hk hB0 h0 hY
  refine callsIn_wide.2 ?_
  show Calls Try.prog 36 #[.func (.yield l) #[] #[]] W _
  go_enter Try.func36, Try.ntmps36
  go_wp2_with fail
  go_end0
  exact ⟨⟨_, rfl⟩, ⟨B0, .inl h0⟩, hk, Nat.le_refl _⟩

/-- What Each hands back. -/
def EachR2 (x : Nd) (w : World) (e : Ending) (w' : World) : Prop :=
  ∃ gf lb It, e = .returned (.func (.func gf) #[] lb) ∧ (∀ args W, (callFunc gf args).run Try.prog W = .ok (.enter gf args) W) ∧ (∀ b, It b → w.heap.size ≤ b ∧ b < w'.heap.size) ∧ Keeps (fun _ => False) w w' ∧ IterOK Try.prog gf lb (eachL x).length (EachG (eachL x)) It w'

set_option maxHeartbeats 1600000 in
theorem Each_any (x : Nd) (cp : Option Addr) (cl cc : Nat) (A : Nat → Prop) (w : World) (h : Tv w A x.k x.t x.c cp cl cc) :
   Calls Try.prog 10 #[tv x.k x.n x.t cp cl cc] w (EachR2 x w) := by
  obtain ⟨w1, hw1⟩ : ∃ w1, w1 = w.alloc (.cells (four x.k x.n x.t cp cl cc) T) := ⟨_, rfl⟩
  have hK : Keeps (fun _ => False) w w1 := by rw [hw1]; exact (Keeps.refl _ w).alloc _
  have hs1 : w1.heap.size = w.heap.size + 1 := by rw [hw1]; simp
  have hbox : w1.heap[w.heap.size]? = some (.cells (four x.k x.n x.t cp cl cc) T (0, 0)) := by rw [hw1]; exact heap_alloc_new _ _
  have hn : NodeAt w1 A w.heap.size 0 x.k x.n x.t x.c cp cl cc := by rw [hw1]; exact h.boxed _
  have hn := hn.top
  have hg := great_any x.k x.n x.t x.c w.heap.size 0 cp cl cc w1 (by omega) hn
  rw [big_small] at hg
  have HW1 := Lib.hid hw1
  clear hw1
  by_cases hsm : x.small
  · have hcn : x.c.nodes < 2000 := by have := hsm.1; simp only [Nd.nodes] at this; omega
    have htw := fun W (hk : Keeps (fun _ => False) w1 W) => twin_any (x.c.nodes + 1) (by omega) x.k x.n x.t x.c _ w.heap.size 0 cp cl cc W (by omega) (by have := hk.size; omega) (hn.keeps hk (fun _ _ h => h) (by omega) (fun h => h))
    simp only [hsm, decide_true, Bool.not_true] at hg
    have hcf : eachL x = pre [] ⟨x.k, x.n, x.t, x.c⟩ := by simp [eachL, hsm]
    have HC := Lib.hid hcf
    clear hcf hsm hn
    go_enter Try.func10, Try.ntmps10
    go_wp2_with fail
    rw [← HW1.out]
    refine hg.mono ?_
    clear hg
    rintro e W ⟨rfl, hk⟩
    go_wp2_with fail
    refine (htw W hk).mono ?_
    clear htw
    rintro e W2 ⟨cp2, cl2, cc2, bs, rfl, ho, hnw, hk2⟩
    have hk' := hk.trans hk2
    have hbox2 := (hk'.block _ (heap_lt hbox) (fun h => h)).trans hbox
    obtain ⟨r0, r1, r2, r3, f0, f1, f2, f3⟩ := box4 hbox2
    have hsW := hk'.size
    obtain ⟨W4, hW4⟩ : ∃ W4, W4 = (((W2.setCell ⟨w.heap.size, 0, none⟩ (.string x.k)).setCell ⟨w.heap.size, 1, none⟩ (.int .i64 x.n)).setCell ⟨w.heap.size, 2, none⟩ (.string x.t)).setCell ⟨w.heap.size, 3, none⟩ (.slice cp2 cl2 cc2) := ⟨_, rfl⟩
    have hk4 : Keeps (fun b => b = w.heap.size) W2 W4 := by rw [hW4]; exact Keeps.four _ _ _ _ _ _
    have hbox4 : W4.heap[w.heap.size]? = some (.cells (four x.k x.n x.t cp2 cl2 cc2) T (0, 0)) := by
      rw [hW4, heap_set (heap_set (heap_set (heap_set hbox2 _ _) _ _) _ _) _ _]
      rfl
    have HW4 := Lib.hid hW4
    clear hW4
    go_wp2_with fail
    rw [← HW4.out]
    go_ret
    obtain ⟨q0, q1, q2, q3, _, _, _, _⟩ := box4 hbox4
    have ho4 := ho.keeps hk4 (fun b hb => ⟨hnw.hi b hb, fun e => by have := hnw.lo b hb; have := hk.size; omega⟩)
    have hkids := ho4.kids (A := fun b => b = w.heap.size ∨ b ∈ bs) (fun b hb => .inr hb)
    have hn4 : NodeAt W4 (fun b => b = w.heap.size ∨ b ∈ bs) w.heap.size 0 x.k x.n x.t x.c cp2 cl2 cc2 := ⟨h.size, hkids.2.1, hkids.2.2.1, q0, q1, q2, q3, hkids.1⟩
    have hs4 := hk4.size
    have hIt : ∀ b, (b = w.heap.size ∨ b ∈ bs) → w.heap.size ≤ b ∧ b < W4.heap.size := fun b hb => by
      rcases hb with rfl | hb
      · omega
      · have h1 := hnw.lo b hb; have h2 := hnw.hi b hb; have := hk.size; omega
    refine ⟨_, _, _, rfl, fun args W => by kernel_rfl, hIt, (hK.trans hk').trans' hk4 (fun b hb hl => by omega), ?_⟩
    rw [HC.out]
    exact each2_it x.k x.n x.t x.c w.heap.size 0 cp2 cl2 cc2 _ W4 hcn hn4 (.inl rfl) (fun b hb => (hIt b hb).2)
  · simp only [hsm, decide_false, Bool.not_false] at hg
    have hcf : eachL x = [] := by simp [eachL, hsm]
    have HC := Lib.hid hcf
    clear hcf hsm hn
    go_enter Try.func10, Try.ntmps10
    go_wp2_with fail
    rw [← HW1.out]
    refine hg.mono ?_
    clear hg
    rintro e W ⟨rfl, hk⟩
    go_wp2_with fail
    go_ret
    refine ⟨_, _, fun _ => False, rfl, fun args W => by kernel_rfl, fun b hb => hb.elim, hK.trans hk, ?_⟩
    rw [HC.out]
    exact each1_it _ _ _
end Go.Proofs.Ytnphhibfiklfjaa

/-!
  Small things that the begun functions and the main walks use (their like for the tree's seat stand in BegunP, PathsJ).
-/
namespace Go.Proofs.Ytnphhibfiklfjaa

open Go.RowKit

abbrev lf (k : ByteArray) : Nd := ⟨k, 0, e0, .nil⟩

theorem smallLf (k : ByteArray) : (lf k).small := by simp [Nd.small, Nd.nodes, Nd.depth, Nd.bytes, Fo.nodes, Fo.depth, Fo.bytes, e0, ByteArray.size]
theorem tvLf (W : World) (k : ByteArray) (h : szok k e0) : Tv W (fun _ => False) k e0 .nil none 0 0 := ⟨h, Nat.le_refl _, by omega, rfl⟩
theorem TreeRes.out {w w' : World} {k t : ByteArray} {n i : Int} {c : Fo} {e : Ending} (h : TreeRes w (⟨k, n, t, c⟩, i) e w') :
    ∃ cp cl cc A, e = .returned (.tuple #[tv k n t cp cl cc, .int .i64 i]) ∧ Tv w' A k t c cp cl cc ∧ Keeps (fun _ => False) w w' := by
  obtain ⟨cp, cl, cc, bs, he, ho, _, hs, hk⟩ := h
  exact ⟨cp, cl, cc, _, he, ho.tv hs, hk⟩
theorem Keeps.both {I S : Nat → Prop} {w w1 : World} (h : Keeps (fun b => I b ∨ S b) w w1) (k : Keeps (fun b => ¬ I b) w w1) : Keeps S w w1 :=
  ⟨h.os, h.tape, h.output, h.size, fun b hb hn => (Classical.em (I b)).elim (fun hi => k.block b hb (fun h => h hi)) (fun hi => h.block b hb (fun h => h.elim hi hn))⟩
theorem row_len {w : World} {base e size n : Nat} {p : Option Addr} {l c : Nat} {xs : List Value} (h : w.ownsRow base e size (.slice p l c) n xs) : l = n := by
  rcases h.2 with ⟨h1, h2⟩ | ⟨g, cap, cur, h1, _⟩
  · simp only [Value.slice.injEq] at h1; omega
  · simp only [Value.slice.injEq] at h1; exact h1.2.1
theorem ints_box (W : World) (xs : List Int) (hx : xs.length ≤ 9223372036854775807) : Ints (W.alloc (.cells (xs.map vint).toArray 3)) (fun b => b = W.heap.size) xs (some ⟨W.heap.size, 0, none⟩) xs.length := by
  refine ⟨rfl, hx, fun _ => ⟨W.heap.size, 0, rfl, rfl, by simp, fun i hi => ?_⟩⟩
  have := heap_alloc_new W (.cells (xs.map vint).toArray 3)
  simp only [World.cell?, this]
  simp [List.getD_eq_getElem?_getD, List.getElem?_eq_getElem hi]
theorem TreeRes.out2 {w w' : World} {x : Nd} {i : Int} {e : Ending} (h : TreeRes w (x, i) e w') :
    ∃ cp cl cc A, e = .returned (.tuple #[tv x.k x.n x.t cp cl cc, .int .i64 i]) ∧ Tv w' A x.k x.t x.c cp cl cc ∧ (∀ b, A b → w.heap.size ≤ b ∧ b < w'.heap.size) ∧ Keeps (fun _ => False) w w' := by
  obtain ⟨cp, cl, cc, bs, he, ho, hn, hs, hk⟩ := h
  exact ⟨cp, cl, cc, _, he, ho.tv hs, fun b hb => ⟨hn.lo b hb, hn.hi b hb⟩, hk⟩
def TreeBox (W : World) (y : Nd) (n : Int) (s1 s2 : Value) (wx : World) : Prop :=
  ∃ zb cp cl cc A, s1 = .pointer (some ⟨zb, 0, none⟩) ∧ s2 = .int .i64 n ∧ W.heap.size ≤ zb ∧ wx.heap[zb]? = some (.cells (four y.k y.n y.t cp cl cc) T (0, 0)) ∧ Tv wx A y.k y.t y.c cp cl cc ∧ Keeps (fun _ => False) W wx
abbrev Z0 : Obj := .cells (four e0 0 e0 none 0 0) T
theorem z0_cells {W W1 : World} (hk : Keeps (fun _ => False) (W.alloc Z0).drew W1) : W1.heap[W.heap.size]? = some (.cells (four e0 0 e0 none 0 0) T (0, 0)) := hk.heap (heap_alloc_new W _)
theorem TreeBox.early {W W1 : World} {y : Nd} {n : Int} {cp : Option Addr} {cl cc : Nat} {A : Nat → Prop} (hk : Keeps (fun _ => False) (W.alloc Z0).drew W1) (ht : Tv W1 A y.k y.t y.c cp cl cc) (hA : ∀ b, A b → (W.alloc Z0).drew.heap.size ≤ b ∧ b < W1.heap.size) :
    TreeBox W y n (.pointer (some ⟨W.heap.size, 0, none⟩)) (.int .i64 n) ((((W1.setCell ⟨W.heap.size, 0, none⟩ (.string y.k)).setCell ⟨W.heap.size, 1, none⟩ (.int .i64 y.n)).setCell ⟨W.heap.size, 2, none⟩ (.string y.t)).setCell ⟨W.heap.size, 3, none⟩ (.slice cp cl cc)) := by
  have h4 := Keeps.four W1 W.heap.size (.string y.k) (.int .i64 y.n) (.string y.t) (.slice cp cl cc)
  have hs : (W.alloc Z0).drew.heap.size = W.heap.size + 1 := by simp
  refine ⟨W.heap.size, cp, cl, cc, A, rfl, rfl, Nat.le_refl _, ?_, ht.keeps h4 (fun b hb e => by have := (hA b hb).1; omega), ((((Keeps.refl _ W).alloc Z0).drew).trans hk).trans' h4 (fun b hb hl => by omega)⟩
  rw [heap_set (heap_set (heap_set (heap_set (z0_cells hk) _ _) _ _) _ _) _ _]
  rfl
theorem TreeBox.late {W W1 : World} {y : Nd} {n : Int} {cp : Option Addr} {cl cc : Nat} {A : Nat → Prop} (hk : Keeps (fun _ => False) W W1) (ht : Tv W1 A y.k y.t y.c cp cl cc) :
    TreeBox W y n (.pointer (some ⟨W1.heap.size, 0, none⟩)) (.int .i64 n) (W1.alloc (.cells (four y.k y.n y.t cp cl cc) T)) := by
  have h1 : Keeps (fun _ => False) W1 (W1.alloc (.cells (four y.k y.n y.t cp cl cc) T)) := (Keeps.refl _ W1).alloc _
  exact ⟨W1.heap.size, cp, cl, cc, A, rfl, rfl, hk.size, heap_alloc_new _ _, ht.next h1, hk.trans h1⟩
end Go.Proofs.Ytnphhibfiklfjaa

/-!
  Lists of steps (a path, a tree) in memory; a path's copy by append.
-/
namespace Go.Proofs.Ytnphhibfiklfjaa

open Go.RowKit

theorem Row.ints {w : World} {v : Value} {xs : List Int} (h : Row w v xs) (hx : xs.length ≤ 9223372036854775807) : ∃ p c, v = .slice p xs.length c ∧ Ints w (fun b => v.ownBlock = some b) xs p xs.length := by
  rcases h.form with ⟨rfl, rfl⟩ | ⟨g, cap, cur, rfl, hpos, hh, h1, h2, h3, h4⟩
  · exact ⟨none, 0, rfl, rfl, by simp, fun h => by simp at h⟩
  · refine ⟨_, _, rfl, rfl, hx, fun _ => ⟨g, 0, rfl, rfl, heap_lt hh, fun i hi => ?_⟩⟩
    have := h.cellsOf i (vint (xs.getD i 0)) (by simp [List.getD_eq_getElem?_getD, List.getElem?_eq_getElem hi])
    rw [add0] at this
    rw [show (0 : Nat) + i = i by omega]
    exact this

/-! ### 'append([]int(nil), p...)' -/

theorem run_clone {P : Program} (w : World) (t ty : TypeId) (i : TypeInfo) (z : Value) (ht : P.underlying t = some (.slice 3)) (hi : P.info? 3 = some i) (hz : i.zero = some z) (hs1 : i.size = 1) (hb8 : i.bytes = 8) (hzs : z.cells.size = 1)
    {A : Nat → Prop} {xs : List Int} {pp : Option Addr} {pl : Nat} (pc : Nat) (h : Ints w A xs pp pl) (hl : pl ≤ 17592186044416) :
    ∃ v' w', (Builtin.append_ #[t, t] ty #[.slice none 0 0, .slice pp pl pc]).run P w = .ok v' w' ∧ Row w' v' xs ∧ Keeps (fun _ => False) w w' ∧ (∀ g, v'.ownBlock = some g → w.heap.size ≤ g) := by
  have hlen := h.len
  by_cases h0 : pl = 0
  · subst h0
    have hxs : xs = [] := List.eq_nil_of_length_eq_zero hlen
    subst hxs
    rcases pp with _ | ad
    · refine ⟨.slice none 0 0, w, ?_, ⟨World.ownsRow_nil _ _ _ _, fun _ => rfl⟩, Keeps.refl _ _, fun g hg => by simp [Value.ownBlock] at hg⟩
      simp [Builtin.append_, run_underlying ht, sizeOf, typeInfo, hi, Builtin.lenOf, Builtin.firstCells]
    · obtain ⟨v', w', hr, h2, h3, h4, _⟩ := run_append_own_at (P := P) w w.heap.size t ty 3 i z 1 8 ht hi hz hs1 hb8 hzs (by omega) (.slice none 0 0) 0 [] (World.ownsRow_nil _ _ _ _) ad 0 pc [] (by simp) (by simp) (by simp) (by simp [maxLen]) (by omega) (Nat.le_refl _)
      have hv : v' = .slice none 0 0 := h4.2 ⟨rfl, rfl⟩
      subst hv
      exact ⟨_, w', hr, ⟨World.ownsRow_nil _ _ _ _, fun _ => rfl⟩, (Keeps.refl _ w).grown h3 (fun k hk => by simp [Value.ownBlock] at hk), fun g hg => by simp [Value.ownBlock] at hg⟩
  · obtain ⟨b, o, rfl, _, _, hc⟩ := h.cells (by omega)
    have hnews : ∀ j u, (xs.map vint)[j]? = some u → w.cell? ((⟨b, o, none⟩ : Addr).add j) = some u := by
      intro j u hu
      have hj : j < xs.length := by
        rcases Nat.lt_or_ge j xs.length with hh | hh
        · exact hh
        · rw [List.getElem?_eq_none (by simpa using hh)] at hu; simp at hu
      rw [WideShapes.add_plain]
      have := hc j (by omega)
      rw [this]
      simpa [List.getD_eq_getElem?_getD, List.getElem?_eq_getElem hj] using hu
    obtain ⟨v', w', hr, h2, h3, h4, _⟩ := run_append_own_at (P := P) w w.heap.size t ty 3 i z 1 8 ht hi hz hs1 hb8 hzs (by omega) (.slice none 0 0) 0 [] (World.ownsRow_nil _ _ _ _) ⟨b, o, none⟩ pl pc (xs.map vint) (by simp [hlen]) hnews (by simp [Value.oneCell']) (by unfold maxLen; omega) (by omega) (Nat.le_refl _)
    simp only [Nat.zero_add, List.nil_append] at h2
    refine ⟨v', w', hr, ⟨?_, fun hn => by rw [hn] at hlen; simp at hlen; omega⟩, (Keeps.refl _ w).grown h3 (fun k hk => by simp [Value.ownBlock] at hk), fun g hg => (h2.lt g hg).1⟩
    rw [hlen]
    exact ⟨h2.1, h2.2.imp id (fun ⟨g, cap, cur, a, b, c⟩ => ⟨g, cap, cur, a, Nat.zero_le _, c⟩)⟩
theorem wp_clone {P : Program} {o : Oper} {a : Act} {w : World} {K : Act → World → Prop} {Q : Exit → Act → World → Prop} (s x : Operand) (t : TypeId)
    (ho : o.op = .call { callee := .builtin .append, args := #[s, x], argTypes := #[t, t] }) (i : TypeInfo) (z : Value) (ht : P.underlying t = some (.slice 3)) (hi : P.info? 3 = some i) (hz : i.zero = some z) (hs1 : i.size = 1) (hb8 : i.bytes = 8) (hzs : z.cells.size = 1)
    (hs : a.eval s = .slice none 0 0) {A : Nat → Prop} {xs : List Int} {pp : Option Addr} {pl : Nat} (pc : Nat) (hx : a.eval x = .slice pp pl pc) (hr : Ints w A xs pp pl) (hl : pl ≤ 17592186044416)
    (h : ∀ v' w', Row w' v' xs → Keeps (fun _ => False) w w' → (∀ g, v'.ownBlock = some g → w.heap.size ≤ g) → K (a.put o.dst v') w') : o.wp P a w K Q := by
  obtain ⟨v', w', hrun, h1, h2, h3⟩ := run_clone (P := P) w t o.type i z ht hi hz hs1 hb8 hzs pc hr hl
  unfold Oper.wp execOp
  simp only [ho, resolve, invoke, builtin, Sem.run_bind, Sem.run_pure, Result.andThen_ok, List.map_toArray, List.map_cons, List.map_nil, hs, hx, hrun]
  exact h v' w' h1 h2 h3
theorem wpList_clone {P : Program} {ops : Array Oper} {rest : List Oper} {o : Oper} {a : Act} {w : World} {Q : Exit → Act → World → Prop} (hgd : o.guard = none) (s x : Operand) (t : TypeId)
    (ho : o.op = .call { callee := .builtin .append, args := #[s, x], argTypes := #[t, t] }) (i : TypeInfo) (z : Value) (ht : P.underlying t = some (.slice 3)) (hi : P.info? 3 = some i) (hz : i.zero = some z) (hs1 : i.size = 1) (hb8 : i.bytes = 8) (hzs : z.cells.size = 1)
    (hs : a.eval s = .slice none 0 0) {A : Nat → Prop} {xs : List Int} {pp : Option Addr} {pl : Nat} (pc : Nat) (hx : a.eval x = .slice pp pl pc) (hr : Ints w A xs pp pl) (hl : pl ≤ 17592186044416)
    (h : ∀ v' w', Row w' v' xs → Keeps (fun _ => False) w w' → (∀ g, v'.ownBlock = some g → w.heap.size ≤ g) → wpList P ops Q rest (a.put o.dst v') w') : wpList P ops Q (o :: rest) a w :=
  wpList_plain hgd fun _ hK => wp_clone s x t ho i z ht hi hz hs1 hb8 hzs hs pc hx hr hl fun v' w' h1 h2 h3 => hK _ _ (h v' w' h1 h2 h3)
theorem step_clone {P : Program} {ops : Array Oper} {o : Oper} {a : Act} {w : World} {K : Act → World → Prop} {Q : Exit → Act → World → Prop} {E : Prop} (hgd : o.guard = none) (s x : Operand) (t : TypeId)
    (ho : o.op = .call { callee := .builtin .append, args := #[s, x], argTypes := #[t, t] }) (i : TypeInfo) (z : Value) (ht : P.underlying t = some (.slice 3)) (hi : P.info? 3 = some i) (hz : i.zero = some z) (hs1 : i.size = 1) (hb8 : i.bytes = 8) (hzs : z.cells.size = 1)
    (hs : a.eval s = .slice none 0 0) {A : Nat → Prop} {xs : List Int} {pp : Option Addr} {pl : Nat} (pc : Nat) (hx : a.eval x = .slice pp pl pc) (hr : Ints w A xs pp pl) (hl : pl ≤ 17592186044416)
    (h : ∀ v' w', Row w' v' xs → Keeps (fun _ => False) w w' → (∀ g, v'.ownBlock = some g → w.heap.size ≤ g) → K (a.put o.dst v') w') :
    if Region.wanted o (yielded ops a.tmps) = true then Oper.wp P o a w K Q else E := by
  have hw : Region.wanted o (yielded ops a.tmps) = true := by simp [Region.wanted, hgd]
  rw [if_pos hw]
  exact wp_clone s x t ho i z ht hi hz hs1 hb8 hzs hs pc hx hr hl h

/-! ### Lists of steps -/

abbrev TS : TypeId := 46
def StepsRep (w : World) : List (List Int × Nd) → List Value → List Nat → Prop
  | [], xs, bs => xs = [] ∧ bs = []
  | (p, x) :: L, xs, bs => ∃ pv cp cl cc bs1 xs' bs2, xs = pv :: .string x.k :: .int .i64 x.n :: .string x.t :: .slice cp cl cc :: xs' ∧ bs = pv.ownBlock.toList ++ bs1 ++ bs2 ∧ szok x.k x.t ∧ Row w pv p ∧ Own w x.c cp cl cc bs1 ∧ StepsRep w L xs' bs2
theorem Row.shape {w : World} {v : Value} {xs : List Int} (h : Row w v xs) : ∀ b, v.ownBlock = some b → ∃ cur, w.heap[b]? = some (.cells cur 3 (0, 0)) := fun b hb => by
  rcases h.form with ⟨rfl, _⟩ | ⟨g, cap, cur, rfl, _, hh, _⟩
  · simp [Value.ownBlock] at hb
  · have : g = b := by simpa [Value.ownBlock] using hb
    subst this
    exact ⟨cur, hh⟩
theorem StepsRep.shape {w : World} : ∀ {L : List (List Int × Nd)} {xs : List Value} {bs : List Nat}, StepsRep w L xs bs → ∀ b ∈ bs, ∃ cur t, w.heap[b]? = some (.cells cur t (0, 0)) ∧ t ≠ TS
  | [], _, _, ⟨_, rfl⟩, b, hb => by simp at hb
  | (p, x) :: L, _, _, ⟨pv, cp, cl, cc, bs1, xs', bs2, _, rfl, _, hr, ho, hrest⟩, b, hb => by
    rcases List.mem_append.1 hb with hb | hb
    · rcases List.mem_append.1 hb with hb | hb
      · obtain ⟨cur, h⟩ := hr.shape b (by simpa using hb)
        exact ⟨cur, _, h, by decide⟩
      · obtain ⟨cur, h⟩ := ho.shape b hb
        exact ⟨cur, _, h, by decide⟩
    · exact StepsRep.shape hrest b hb
theorem StepsRep.same {w w1 : World} : ∀ {L : List (List Int × Nd)} {xs : List Value} {bs : List Nat}, StepsRep w L xs bs → (∀ b ∈ bs, w1.heap[b]? = w.heap[b]?) → StepsRep w1 L xs bs
  | [], _, _, h, _ => h
  | (p, x) :: L, _, _, ⟨pv, cp, cl, cc, bs1, xs', bs2, hx, hb, hs, hr, ho, hrest⟩, h => by
    subst hb
    exact ⟨pv, cp, cl, cc, bs1, xs', bs2, hx, rfl, hs, ⟨ownsRow_same hr.own (fun b hb => h b (by simp at hb ⊢; exact .inl hb)), hr.nil⟩, ho.same (fun b hb => h b (by simp [hb])), StepsRep.same hrest (fun b hb => h b (by simp [hb]))⟩
theorem StepsRep.snoc {w : World} {p : List Int} {x : Nd} {pv : Value} {cp : Option Addr} {cl cc : Nat} {bs1 : List Nat} (hs : szok x.k x.t) (hr : Row w pv p) (ho : Own w x.c cp cl cc bs1) : ∀ {L : List (List Int × Nd)} {xs : List Value} {bs : List Nat}, StepsRep w L xs bs →
    StepsRep w (L ++ [(p, x)]) (xs ++ [pv, .string x.k, .int .i64 x.n, .string x.t, .slice cp cl cc]) (bs ++ (pv.ownBlock.toList ++ bs1))
  | [], _, _, ⟨rfl, rfl⟩ => ⟨pv, cp, cl, cc, bs1, [], [], rfl, by simp, hs, hr, ho, rfl, rfl⟩
  | (p', x') :: L, _, _, ⟨pv', cp', cl', cc', bs1', xs', bs2', rfl, rfl, hs', hr', ho', hrest⟩ => ⟨pv', cp', cl', cc', bs1', _, _, rfl, by simp [List.append_assoc], hs', hr', ho', StepsRep.snoc hs hr ho hrest⟩
/-- The i-th step. -/
theorem StepsRep.at_ {w : World} : ∀ {L : List (List Int × Nd)} {xs : List Value} {bs : List Nat} {i : Nat} {p : List Int} {x : Nd}, StepsRep w L xs bs → L[i]? = some (p, x) →
    ∃ pv cp cl cc bs1, xs[i * 5]? = some pv ∧ xs[i * 5 + 1]? = some (.string x.k) ∧ xs[i * 5 + 2]? = some (.int .i64 x.n) ∧ xs[i * 5 + 3]? = some (.string x.t) ∧ xs[i * 5 + 4]? = some (.slice cp cl cc) ∧ szok x.k x.t ∧ Row w pv p ∧ Own w x.c cp cl cc bs1 ∧ (∀ b, pv.ownBlock = some b ∨ b ∈ bs1 → b ∈ bs)
  | [], _, _, i, _, _, _, h => by simp at h
  | (p', x') :: L, _, _, 0, p, x, ⟨pv, cp, cl, cc, bs1, xs', bs2, rfl, rfl, hs, hr, ho, hrest⟩, h => by
    simp only [List.getElem?_cons_zero, Option.some.injEq, Prod.mk.injEq] at h
    obtain ⟨rfl, rfl⟩ := h
    exact ⟨pv, cp, cl, cc, bs1, rfl, rfl, rfl, rfl, rfl, hs, hr, ho, fun b hb => by simp; exact hb.elim (fun h => .inl h) (fun h => .inr (.inl h))⟩
  | (p', x') :: L, _, _, i + 1, p, x, ⟨pv, cp, cl, cc, bs1, xs', bs2, rfl, rfl, hs, hr, ho, hrest⟩, h => by
    simp only [List.getElem?_cons_succ] at h
    obtain ⟨pv2, cp2, cl2, cc2, bs12, g0, g1, g2, g3, g4, h5, h6, h7, h8⟩ := StepsRep.at_ hrest h
    have e : ∀ k, (i + 1) * 5 + k = i * 5 + k + 5 := fun k => by omega
    refine ⟨pv2, cp2, cl2, cc2, bs12, ?_, ?_, ?_, ?_, ?_, h5, h6, h7, fun b hb => by simp [h8 b hb]⟩
    · rw [show (i + 1) * 5 = i * 5 + 5 by omega]; simpa using g0
    · rw [e]; simpa using g1
    · rw [e]; simpa using g2
    · rw [e]; simpa using g3
    · rw [e]; simpa using g4

structure StepsI (D : Nat) (W : World) (L : List (List Int × Nd)) (lp : Option Addr) (ll lc : Nat) (xs : List Value) (bs : List Nat) : Prop where
  row : W.ownsRow D TS 5 (.slice lp ll lc) L.length xs
  rep : StepsRep W L xs bs
  lo : ∀ b ∈ bs, D ≤ b
theorem StepsI.start (D : Nat) (W : World) : StepsI D W [] none 0 0 [] [] := ⟨World.ownsRow_nil _ _ _ _, ⟨rfl, rfl⟩, by simp⟩
theorem StepsI.lt {D : Nat} {W : World} {L lp ll lc xs bs} (h : StepsI D W L lp ll lc xs bs) : ∀ b ∈ bs, b < W.heap.size := fun b hb => by
  obtain ⟨cur, t, hh, _⟩ := h.rep.shape b hb
  exact heap_lt hh
/-- The list's own block. -/
theorem StepsI.blk {D : Nat} {W : World} {L lp ll lc xs bs} (h : StepsI D W L lp ll lc xs bs) {g : Nat} (hg : (Value.slice lp ll lc).ownBlock = some g) : D ≤ g ∧ ∃ cur, W.heap[g]? = some (.cells cur TS (0, 0)) := by
  rcases h.row.2 with ⟨h1, _⟩ | ⟨g', cap, cur, h1, h2, h3, _⟩
  · rw [h1] at hg; simp [Value.ownBlock] at hg
  · rw [h1] at hg
    have : g' = g := by simpa [Value.ownBlock] using hg
    subst this
    exact ⟨h2, cur, h3⟩
theorem StepsI.ne {D : Nat} {W : World} {L lp ll lc xs bs} (h : StepsI D W L lp ll lc xs bs) {b : Nat} (hb : b ∈ bs) : (Value.slice lp ll lc).ownBlock ≠ some b := fun e => by
  obtain ⟨_, cur, h1⟩ := h.blk e
  obtain ⟨cur', t, h2, h3⟩ := h.rep.shape b hb
  rw [h1] at h2
  simp only [Option.some.injEq, Obj.cells.injEq] at h2
  exact h3 h2.2.1.symm
theorem StepsI.keeps {D : Nat} {W W1 : World} {S : Nat → Prop} {L lp ll lc xs bs} (h : StepsI D W L lp ll lc xs bs) (hk : Keeps S W W1) (hS : ∀ b, S b → b < D ∨ W.heap.size ≤ b) : StepsI D W1 L lp ll lc xs bs :=
  ⟨ownsRow_same h.row (fun b hb => by
    have hb' : (Value.slice lp ll lc).ownBlock = some b := by simpa using hb
    obtain ⟨h1, cur, h2⟩ := h.blk hb'
    have h3 := heap_lt h2
    exact hk.block b h3 (fun hs => by have := hS b hs; omega)),
   h.rep.same (fun b hb => hk.block b (h.lt b hb) (fun hs => by have := hS b hs; have := h.lo b hb; have := h.lt b hb; omega)), h.lo⟩
/-- One step more. -/
theorem StepsI.push {D : Nat} {wr Wq w3 : World} {L : List (List Int × Nd)} {lp : Option Addr} {ll lc : Nat} {xs : List Value} {bs : List Nat} (hI : StepsI D wr L lp ll lc xs bs) (hk : Keeps (fun _ => False) wr Wq)
    {p : List Int} {x : Nd} {pv : Value} {cp : Option Addr} {cl cc : Nat} {bs1 : List Nat} (hs : szok x.k x.t) (hr : Row Wq pv p) (ho : Own Wq x.c cp cl cc bs1) (hlo : ∀ b, pv.ownBlock = some b ∨ b ∈ bs1 → D ≤ b) {gg cap : Nat}
    (hrow : w3.ownsRow D TS 5 (.slice (some ⟨gg, 0, none⟩) (L.length + 1) cap) (L.length + 1) (xs ++ [pv, .string x.k, .int .i64 x.n, .string x.t, .slice cp cl cc]))
    (hg : Wq.grownBy w3 (Value.slice lp ll lc).ownBlock) :
    StepsI D w3 (L ++ [(p, x)]) (some ⟨gg, 0, none⟩) (L.length + 1) cap (xs ++ [pv, .string x.k, .int .i64 x.n, .string x.t, .slice cp cl cc]) (bs ++ (pv.ownBlock.toList ++ bs1)) := by
  have hq := hI.keeps hk (fun _ h => h.elim)
  have hrep := hq.rep.snoc hs hr ho
  have hne : ∀ b ∈ bs ++ (pv.ownBlock.toList ++ bs1), b < Wq.heap.size ∧ (Value.slice lp ll lc).ownBlock ≠ some b := fun b hb => by
    obtain ⟨cur, t, h1, h2⟩ := hrep.shape b hb
    refine ⟨heap_lt h1, fun e => ?_⟩
    obtain ⟨_, cur', h3⟩ := hq.blk e
    rw [h1] at h3
    simp only [Option.some.injEq, Obj.cells.injEq] at h3
    exact h2 h3.2.1
  refine ⟨by rw [List.length_append]; exact hrow, hrep.same (fun b hb => hg.block b (hne b hb).1 (fun e => (hne b hb).2 e.symm)), fun b hb => ?_⟩
  rcases List.mem_append.1 hb with h | h
  · exact hI.lo b h
  · exact hlo b (by simpa using h)
end Go.Proofs.Ytnphhibfiklfjaa

/-!
  espalierref4.named, May: their walks.
-/
namespace Go.Proofs.Ytnphhibfiklfjaa

open Go.RowKit

theorem namedL_app (l l' : List ByteArray) : namedL (l ++ l') = (namedL l && namedL l') := by simp [namedL, List.all_append]
theorem named_step {c : Fo} {j : Nat} {k1 n1 t1 s1 r1} {g v : Bool} (hd : c.drop j = .cons k1 n1 t1 s1 r1) (h : v = (g && namedL (c.drop j).kinds)) : v = ((g && namedL (k1 :: s1.kinds)) && namedL (c.drop (j + 1)).kinds) := by
  have h1 : c.drop (j + 1) = r1 := Fo.drop_step hd
  rw [h, hd, h1]
  show (g && namedL (k1 :: s1.kinds ++ r1.kinds)) = _
  rw [namedL_app, Bool.and_assoc]
theorem Tv.kidNodes {c : Fo} {j : Nat} {k1 n1 t1 s1 r1} (hd : c.drop j = .cons k1 n1 t1 s1 r1) : s1.nodes < c.nodes := by
  have h1 := Fo.nodes_drop j c
  rw [hd] at h1
  simp only [Fo.nodes] at h1
  omega
set_option maxRecDepth 100000 in
set_option maxHeartbeats 1600000 in
theorem named_any : ∀ (N : Nat) (k : ByteArray) (n : Int) (t : ByteArray) (c : Fo) (cp : Option Addr) (cl cc : Nat) (A : Nat → Prop) (w : World), c.nodes < N → Tv w A k t c cp cl cc →
    Calls Try.prog 64 #[tv k n t cp cl cc] w fun e w' => e = .returned (.bool (namedL (k :: c.kinds))) ∧ Keeps (fun _ => False) w w' := by
  intro N
  induction N with
  | zero => intros; omega
  | succ N ih =>
    intro k n t c cp cl cc A w hN h
    obtain ⟨w1, hw1⟩ : ∃ w1, w1 = w.alloc (.cells (four k n t cp cl cc) T) := ⟨_, rfl⟩
    have hK1 : Keeps (fun _ => False) w w1 := by rw [hw1]; exact (Keeps.refl _ w).alloc _
    have hs1 : w1.heap.size = w.heap.size + 1 := by rw [hw1]; simp
    have hbx : w1.heap[w.heap.size]? = some (.cells (four k n t cp cl cc) T (0, 0)) := by rw [hw1]; exact heap_alloc_new _ _
    have ht1 := h.next hK1
    have hlc := h.lc
    have hcm := h.cm
    have hki := rKind_any k w1 h.size.2
    have hv : Hid (namedL (k :: c.kinds) = (kindB k.data.toList && namedL (c.drop 0).kinds)) := rfl
    unfold KindR at hki
    obtain ⟨g0, hg0⟩ : ∃ g, kindB k.data.toList = g := ⟨_, rfl⟩
    rw [hg0] at hki hv
    obtain ⟨v, hvv⟩ : ∃ v, namedL (k :: c.kinds) = v := ⟨_, rfl⟩
    rw [hvv] at hv ⊢
    obtain ⟨c0, c1, c2, c3, _⟩ := box4 hbx
    have HW := Lib.hid hw1
    have HI := Lib.hid ih
    clear hw1 ih hg0 hvv
    go_enter Try.func64, Try.ntmps64
    go_upto_region 1 with fail
    rw [← HW.out]
    go_wp2_with fail
    refine hki.mono ?_
    clear hki c0 c1 c2 c3
    rintro e W ⟨sa, sb, rfl, hk⟩
    go_wp2_with fail
    go_loopg [5, 6] cl (fun m ok i W' => ∃ (j : Nat) (g : Bool), j + m = cl ∧ ok = .bool g ∧ i = .int .i64 j ∧ v = (g && namedL (c.drop j).kinds) ∧ Keeps (fun _ => False) w1 W')
    case atStart => exact ⟨0, g0, by omega, rfl, rfl, hv.out, hk⟩
    case round =>
      obtain ⟨j, g, hjm, rfl, rfl, hI, hkr⟩ := hrel
      have hbr := hkr.heap hbx
      obtain ⟨b0, b1, b2, b3, _⟩ := box4 hbr
      have HJ := Lib.hid hjm
      have HIr := Lib.hid hI
      have HKR := Lib.hid hkr
      have HF := Lib.hid (hK1.trans hkr)
      clear hjm hI hv hkr
      cases g with
      | false =>
        by_cases hlt : j < cl
        all_goals
          go_wp2_with fail
          go_ret
          exact ⟨by rw [HIr.out]; rfl, HF.out⟩
      | true =>
        by_cases hlt : j < cl
        · have htr := ht1.next HKR.out
          obtain ⟨kb, ko, rfl, hAk, hkb⟩ := htr.kids.hasAddr (by omega)
          obtain ⟨k1, n1, t1, s1, r1, hdr⟩ := Fo.drop_lt j c (by rw [ht1.len]; exact hlt)
          obtain ⟨cp1, cl1, cc1, hn1⟩ := htr.kids.at_ j hdr hlt
          have hz := HI.out k1 n1 t1 s1 cp1 cl1 cc1 A wr (by have := Tv.kidNodes hdr; omega) hn1.tv
          have HNX := Lib.hid (named_step hdr HIr.out)
          have a0 := hn1.c0
          have a1 := hn1.c1
          have a2 := hn1.c2
          have a3 := hn1.c3
          have hi0' : (0 : Int) ≤ (j : Int) := Int.natCast_nonneg _
          have hi1 : (j : Int) < (cl : Int) := by omega
          clear hdr hn1 htr
          go_wp2_with fail
          refine hz.mono ?_
          clear hz a0 a1 a2 a3 b0 b1 b2 b3
          rintro e W2 ⟨rfl, hkW⟩
          have HKW := Lib.hid hkW
          clear hkW
          go_wp2_with fail
          go_roundg (gk - 1)
          case measure => have := HJ.out; omega
          case rel => exact ⟨j + 1, _, by have := HJ.out; omega, rfl, by go_num, HNX.out, HKR.out.trans HKW.out⟩
        · have hend : c.drop j = .nil := Fo.drop_len_le (by rw [ht1.len]; omega)
          have HE := Lib.hid hend
          clear hend
          go_wp2_with fail
          go_ret
          exact ⟨by rw [HIr.out, HE.out]; rfl, HF.out⟩
set_option maxHeartbeats 400000 in
theorem rMay_any (x : Nd) (cp : Option Addr) (cl cc : Nat) (A : Nat → Prop) (w : World) (h : Tv w A x.k x.t x.c cp cl cc) :
    Calls Try.prog 47 #[tv x.k x.n x.t cp cl cc] w fun e w' => e = .returned (.int .i64 (mayF x)) ∧ Keeps (fun _ => False) w w' := by
  obtain ⟨w1, hw1⟩ : ∃ w1, w1 = w.alloc (.cells (four x.k x.n x.t cp cl cc) T) := ⟨_, rfl⟩
  have hK1 : Keeps (fun _ => False) w w1 := by rw [hw1]; exact (Keeps.refl _ w).alloc _
  have hb1 : w1.heap[w.heap.size]? = some (.cells (four x.k x.n x.t cp cl cc) T (0, 0)) := by rw [hw1]; exact heap_alloc_new _ _
  have ht1 := h.next hK1
  have hS := rSmall_any x cp cl cc _ w1 ht1
  have hN : Hid (∀ W, Keeps (fun _ => False) w1 W → Calls Try.prog 64 #[tv x.k x.n x.t cp cl cc] W fun e w' => e = .returned (.bool x.named) ∧ Keeps (fun _ => False) W w') := Lib.hid fun W hk => named_any (x.c.nodes + 1) x.k x.n x.t x.c cp cl cc _ W (by omega) (ht1.next hk)
  have hF : Hid (mayF x = if decide x.small = true then (if x.named then 0 else 10) else 2) := by show _ = _; simp [mayF]
  obtain ⟨a, ha⟩ : ∃ a, decide x.small = a := ⟨_, rfl⟩
  obtain ⟨b, hb⟩ : ∃ a, x.named = a := ⟨_, rfl⟩
  rw [ha] at hS hF
  rw [hb] at hN hF
  obtain ⟨b0, b1, b2, b3, _⟩ := box4 hb1
  have HW := Lib.hid hw1
  clear hw1 ha hb ht1
  cases a with
  | false =>
    go_enter Try.func47, Try.ntmps47
    go_upto_region 1 with fail
    rw [← HW.out]
    go_wp2_with fail
    refine hS.mono ?_
    clear hS b0 b1 b2 b3
    rintro e W ⟨rfl, hk⟩
    go_wp2_with fail
    go_ret
    exact ⟨by rw [hF.out]; rfl, hK1.trans hk⟩
  | true =>
    go_enter Try.func47, Try.ntmps47
    go_upto_region 1 with fail
    rw [← HW.out]
    go_wp2_with fail
    refine hS.mono ?_
    clear hS b0 b1 b2 b3
    rintro e W ⟨rfl, hk⟩
    obtain ⟨b0, b1, b2, b3, _⟩ := box4 (hk.heap hb1)
    have hN := hN.out _ hk
    go_wp2_with fail
    refine hN.mono ?_
    clear hN b0 b1 b2 b3
    rintro e W2 ⟨rfl, hk2⟩
    cases b
    all_goals
      go_wp2_with fail
      go_ret
      exact ⟨by rw [hF.out]; rfl, (hK1.trans hk).trans hk2⟩
end Go.Proofs.Ytnphhibfiklfjaa

/-!
  espalierlaw4.light, Light: their walks.
-/
namespace Go.Proofs.Ytnphhibfiklfjaa

open Go.RowKit

/-- What is left of n over the trees f. -/
def lightF : Fo → Int → Int
  | .nil, n => n
  | .cons _ _ t c r, n => if 0 ≤ n then lightF r (lightF c (n - 1 - (t.size : Int).tdiv 64)) else n
theorem lightF_neg : ∀ (f : Fo) (n : Int), n < 0 → lightF f n = n
  | .nil, _, _ => rfl
  | .cons _ _ _ _ _, n, h => by rw [lightF, if_neg (by omega)]
theorem lightF_nodes : ∀ (f : Fo) (n : Int), 0 ≤ lightF f n → lightF f n + f.nodes ≤ n
  | .nil, n, _ => by show n + (0 : Int) ≤ n; omega
  | .cons k m t c r, n, h => by
    by_cases h0 : 0 ≤ n
    · rw [lightF, if_pos h0] at h ⊢
      have h1 := lightF_nodes r _ h
      have h2 := lightF_nodes c (n - 1 - (t.size : Int).tdiv 64) (by
        by_cases hc : 0 ≤ lightF c (n - 1 - (t.size : Int).tdiv 64)
        · exact hc
        · rw [lightF_neg r _ (by omega)] at h; exact h)
      have h3 : 0 ≤ (t.size : Int).tdiv 64 := Int.tdiv_nonneg (by omega) (by omega)
      simp only [Fo.nodes]
      omega
    · rw [lightF, if_neg h0] at h
      omega
theorem lightF_step {c : Fo} {j : Nat} {k1 n1 t1 s1 r1} {n res : Int} (hd : c.drop j = .cons k1 n1 t1 s1 r1) (h : res = lightF (c.drop j) n) (h0 : 0 ≤ n) : res = lightF (c.drop (j + 1)) (lightF s1 (n - 1 - (t1.size : Int).tdiv 64)) := by
  rw [h, hd, Fo.drop_step hd, lightF, if_pos h0]
/-- Is it light? -/
def lightN (x : Nd) : Int := lightF x.c (3000 - 1 - (x.t.size : Int).tdiv 64)
theorem lightN_nodes (x : Nd) (h : 0 ≤ lightN x) : x.c.nodes ≤ 3000 := by
  have h1 := lightF_nodes _ _ h
  have h3 : 0 ≤ (x.t.size : Int).tdiv 64 := Int.tdiv_nonneg (by omega) (by omega)
  unfold lightN at h
  omega
set_option maxRecDepth 100000 in
set_option maxHeartbeats 1600000 in
theorem light_any : ∀ (N : Nat) (k : ByteArray) (n : Int) (t : ByteArray) (c : Fo) (cp : Option Addr) (cl cc : Nat) (A : Nat → Prop) (q : Int) (w : World), c.nodes < N → Tv w A k t c cp cl cc → 0 ≤ q → q ≤ 3000 →
    Calls Try.prog 46 #[tv k n t cp cl cc, .int .i64 q] w fun e w' => e = .returned (.int .i64 (lightF c (q - 1 - (t.size : Int).tdiv 64))) ∧ Keeps (fun _ => False) w w' := by
  intro N
  induction N with
  | zero => intros; omega
  | succ N ih =>
    intro k n t c cp cl cc A q w hN h hq0 hq1
    obtain ⟨w1, hw1⟩ : ∃ w1, w1 = w.alloc (.cells (four k n t cp cl cc) T) := ⟨_, rfl⟩
    have hK1 : Keeps (fun _ => False) w w1 := by rw [hw1]; exact (Keeps.refl _ w).alloc _
    have hs1 : w1.heap.size = w.heap.size + 1 := by rw [hw1]; simp
    have hbx : w1.heap[w.heap.size]? = some (.cells (four k n t cp cl cc) T (0, 0)) := by rw [hw1]; exact heap_alloc_new _ _
    have ht1 := h.next hK1
    have hlc := h.lc
    have hcm := h.cm
    have hts := h.size.1
    obtain ⟨c0, c1, c2, c3, _⟩ := box4 hbx
    obtain ⟨q0, hq⟩ : ∃ x, q - 1 - (t.size : Int).tdiv 64 = x := ⟨_, rfl⟩
    obtain ⟨d, hd⟩ : ∃ x, (t.size : Int).tdiv 64 = x := ⟨_, rfl⟩
    have hdb : 0 ≤ d ∧ d ≤ 140737488351232 := by
      have h1 : 0 ≤ (t.size : Int).tdiv 64 := Int.tdiv_nonneg (by omega) (by omega)
      have h2 : (t.size : Int).tdiv 64 ≤ (t.size : Int) := by rw [Int.tdiv_eq_ediv_of_nonneg (by omega)]; omega
      omega
    obtain ⟨hd0, hd1⟩ := hdb
    rw [hq]
    have hqd : q - 1 - d = q0 := by omega
    have hq3 : q0 ≤ 3000 := by omega
    have HW := Lib.hid hw1
    have HI := Lib.hid ih
    have HD := Lib.hid hd
    have HQ := Lib.hid hqd
    clear hw1 ih hqd hq
    go_enter Try.func46, Try.ntmps46
    go_upto_region 1 with fail
    rw [← HW.out]
    go_upto_region 2 with fail
    rw [HQ.out]
    clear hd c0 c1 c2 c3
    go_wp2_with fail
    go_loopg [1, 5] cl (fun m v i W' => ∃ (j : Nat) (r : Int), j + m = cl ∧ v = .int .i64 r ∧ i = .int .i64 j ∧ r ≤ 3000 ∧ lightF c q0 = lightF (c.drop j) r ∧ Keeps (fun _ => False) w1 W')
    case atStart => exact ⟨0, q0, by omega, rfl, rfl, hq3, rfl, Keeps.refl _ _⟩
    case round =>
      obtain ⟨j, r, hjm, rfl, rfl, hr3, hI, hkr⟩ := hrel
      have hbr := hkr.heap hbx
      obtain ⟨b0, b1, b2, b3, _⟩ := box4 hbr
      have HJ := Lib.hid hjm
      have HIr := Lib.hid hI
      have HKR := Lib.hid hkr
      have HF := Lib.hid (hK1.trans hkr)
      clear hjm hI hkr
      by_cases hr0 : 0 ≤ r
      · by_cases hlt : j < cl
        · have htr := ht1.next HKR.out
          obtain ⟨kb, ko, rfl, hAk, hkb⟩ := htr.kids.hasAddr (by omega)
          obtain ⟨k1, n1, t1, s1, r1, hdr⟩ := Fo.drop_lt j c (by rw [ht1.len]; exact hlt)
          obtain ⟨cp1, cl1, cc1, hn1⟩ := htr.kids.at_ j hdr hlt
          have hz := HI.out k1 n1 t1 s1 cp1 cl1 cc1 A r wr (by have := Tv.kidNodes hdr; omega) hn1.tv hr0 hr3
          have HNX := Lib.hid (lightF_step hdr HIr.out hr0)
          obtain ⟨r2, hr2⟩ : ∃ x, lightF s1 (r - 1 - (t1.size : Int).tdiv 64) = x := ⟨_, rfl⟩
          have hr23 : r2 ≤ 3000 := by
            have h3 : 0 ≤ (t1.size : Int).tdiv 64 := Int.tdiv_nonneg (by omega) (by omega)
            by_cases h4 : 0 ≤ lightF s1 (r - 1 - (t1.size : Int).tdiv 64)
            · have := lightF_nodes s1 _ h4; omega
            · omega
          rw [hr2] at hz HNX
          have a0 := hn1.c0
          have a1 := hn1.c1
          have a2 := hn1.c2
          have a3 := hn1.c3
          have hi0' : (0 : Int) ≤ (j : Int) := Int.natCast_nonneg _
          have hi1 : (j : Int) < (cl : Int) := by omega
          have HR2 := Lib.hid hr23
          clear hdr hn1 htr hr2 hr23
          go_wp2_with fail
          refine hz.mono ?_
          clear hz a0 a1 a2 a3 b0 b1 b2 b3
          rintro e W2 ⟨rfl, hkW⟩
          have HKW := Lib.hid hkW
          clear hkW
          go_wp2_with fail
          go_roundg (gk - 1)
          case measure => have := HJ.out; omega
          case rel => exact ⟨j + 1, _, by have := HJ.out; omega, rfl, by go_num, HR2.out, HNX.out, HKR.out.trans HKW.out⟩
        · have hend : c.drop j = .nil := Fo.drop_len_le (by rw [ht1.len]; omega)
          have HE := Lib.hid hend
          clear hend
          go_wp2_with fail
          go_ret
          exact ⟨by rw [HIr.out, HE.out]; rfl, HF.out⟩
      · have HN := Lib.hid (lightF_neg (c.drop j) r (by omega))
        by_cases hlt : j < cl
        all_goals
          go_wp2_with fail
          go_ret
          exact ⟨by rw [HIr.out, HN.out]; rfl, HF.out⟩
set_option maxHeartbeats 400000 in
theorem Light_any (x : Nd) (cp : Option Addr) (cl cc : Nat) (A : Nat → Prop) (w : World) (h : Tv w A x.k x.t x.c cp cl cc) :
    Calls Try.prog 20 #[tv x.k x.n x.t cp cl cc] w fun e w' => e = .returned (.bool (decide (0 ≤ lightN x))) ∧ Keeps (fun _ => False) w w' := by
  obtain ⟨w1, hw1⟩ : ∃ w1, w1 = w.alloc (.cells (four x.k x.n x.t cp cl cc) T) := ⟨_, rfl⟩
  have hK1 : Keeps (fun _ => False) w w1 := by rw [hw1]; exact (Keeps.refl _ w).alloc _
  have hb1 : w1.heap[w.heap.size]? = some (.cells (four x.k x.n x.t cp cl cc) T (0, 0)) := by rw [hw1]; exact heap_alloc_new _ _
  have hz : Hid (Calls Try.prog 46 #[tv x.k x.n x.t cp cl cc, .int .i64 3000] w1 fun e w' => e = .returned (.int .i64 (lightN x)) ∧ Keeps (fun _ => False) w1 w') := light_any (x.c.nodes + 1) x.k x.n x.t x.c cp cl cc _ 3000 w1 (by omega) (h.next hK1) (by omega) (by omega)
  obtain ⟨b0, b1, b2, b3, _⟩ := box4 hb1
  obtain ⟨v, hv⟩ : ∃ v, lightN x = v := ⟨_, rfl⟩
  rw [hv] at hz ⊢
  have HW := Lib.hid hw1
  clear hw1 hv
  go_enter Try.func20, Try.ntmps20
  go_upto_region 1 with fail
  rw [← HW.out]
  go_wp2_with fail
  refine hz.out.mono ?_
  clear hz b0 b1 b2 b3
  rintro e W ⟨rfl, hk⟩
  go_wp2_with fail
  go_ret
  exact ⟨rfl, hK1.trans hk⟩
end Go.Proofs.Ytnphhibfiklfjaa
