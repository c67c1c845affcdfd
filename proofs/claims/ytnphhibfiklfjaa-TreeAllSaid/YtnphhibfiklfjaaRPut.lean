/-
  espalierref4.put, Put: their walks.
-/
import Derived.Test.YtnphhibfiklfjaaRefs
import Derived.Test.YtnphhibfiklfjaaAhead
import Derived.Deep.RegionLaw
import Derived.Deep.Cut
set_option linter.unusedVariables false
set_option linter.unusedSimpArgs false
namespace Go.Proofs.Ytnphhibfiklfjaa
open Go.RowKit

theorem Kids.node {w : World} {A : Nat → Prop} {f : Fo} {b o len : Nat} (h : Kids w A f (some ⟨b, o, none⟩) len) {j : Nat} {y : Nd} (hy : f.at? j = some y) : ∃ cp cl cc, NodeAt w A b (o + j * 4) y.k y.n y.t y.c cp cl cc := by
  have hl := h.len
  have hj : j < f.len := by
    rcases Nat.lt_or_ge j f.len with hh | hh
    · exact hh
    · rw [Fo.at?_none hh] at hy; simp at hy
  obtain ⟨k, n, t, c, r, hd⟩ := Fo.drop_lt j f hj
  rw [Fo.at?_drop hd] at hy
  simp only [Option.some.injEq] at hy
  subst hy
  exact h.at_ j hd (by omega)
theorem Kids.of_at {w : World} {A : Nat → Prop} {g : Nat} (hA : A g) (hg : g < w.heap.size) : ∀ (f : Fo) (o : Nat), (∀ j y, f.at? j = some y → ∃ cp cl cc, NodeAt w A g (o + j * 4) y.k y.n y.t y.c cp cl cc) → f.len ≤ 9223372036854775807 → Kids w A f (some ⟨g, o, none⟩) f.len
  | .nil, o, _, _ => rfl
  | .cons k n t c r, o, h, hl => by
    obtain ⟨cp, cl, cc, hn⟩ := h 0 ⟨k, n, t, c⟩ rfl
    simp only [Nat.zero_mul, Nat.add_zero] at hn
    refine ⟨g, o, r.len, cp, cl, cc, rfl, rfl, hl, hA, hg, hn.size, hn.lc, hn.cm, hn.c0, hn.c1, hn.c2, hn.c3, hn.kids, ?_⟩
    refine Kids.of_at hA hg r (o + 4) (fun j y hy => ?_) (by simp only [Fo.len] at hl; omega)
    have := h (j + 1) y hy
    rwa [show o + (j + 1) * 4 = o + 4 + j * 4 by omega] at this
theorem Fo.at?_set_ne : ∀ (f : Fo) (i j : Nat) (z : Nd), i ≠ j → (f.set i z).at? j = f.at? j
  | .nil, i, j, z, h => rfl
  | .cons k n t c r, 0, 0, z, h => absurd rfl h
  | .cons k n t c r, 0, j + 1, z, h => rfl
  | .cons k n t c r, i + 1, 0, z, h => rfl
  | .cons k n t c r, i + 1, j + 1, z, h => Fo.at?_set_ne r i j z (by omega)
/-- The cells of a list of kids, written out. -/
theorem Kids.cells {w : World} {A : Nat → Prop} : ∀ {f : Fo} {b o len : Nat}, Kids w A f (some ⟨b, o, none⟩) len → ∃ xs : List Value, xs.length = len * 4 ∧ (∀ j u, xs[j]? = some u → w.cell? ⟨b, o + j, none⟩ = some u) ∧ ∀ u ∈ xs, u.oneCell' = true
  | .nil, b, o, len, h => by
    have : len = 0 := h
    subst this
    exact ⟨[], rfl, by simp, by simp⟩
  | .cons k n t c r, b, o, len, ⟨b', o', m, cp, cl, cc, hp, hl, _, _, _, _, _, _, h0, h1, h2, h3, _, hr⟩ => by
    subst hl
    simp only [Option.some.injEq, Addr.mk.injEq, and_true] at hp
    obtain ⟨rfl, rfl⟩ := hp
    obtain ⟨xs, hx1, hx2, hx3⟩ := Kids.cells hr
    refine ⟨.string k :: .int .i64 n :: .string t :: .slice cp cl cc :: xs, by simp [hx1]; omega, fun j u hu => ?_, fun u hu => ?_⟩
    · match j, hu with
      | 0, hu => simp at hu; subst hu; exact h0
      | 1, hu => simp at hu; subst hu; exact h1
      | 2, hu => simp at hu; subst hu; exact h2
      | 3, hu => simp at hu; subst hu; exact h3
      | j + 4, hu =>
        have := hx2 j u (by simpa using hu)
        rwa [show o + 4 + j = o + (j + 4) by omega] at this
    · simp at hu
      rcases hu with rfl | rfl | rfl | rfl | hu <;> first | rfl | exact hx3 u hu

/-- A readable tree, in blocks below D and in new ones. -/
def TreeV (D : Nat) (w : World) (x : Nd) (e : Ending) (w' : World) : Prop := ∃ cp cl cc, e = .returned (tv x.k x.n x.t cp cl cc) ∧ Tv w' (fun b => b < D ∨ w.heap.size ≤ b) x.k x.t x.c cp cl cc ∧ Keeps (fun _ => False) w w'

/-- Two trees and the result's box. -/
structure PB (w W : World) (x u : Nd) (cp up : Option Addr) (cl cc ul uc : Nat) : Prop where
  b0 : W.heap[w.heap.size]? = some (.cells (four x.k x.n x.t cp cl cc) T (0, 0))
  b1 : W.heap[w.heap.size + 1]? = some (.cells (four u.k u.n u.t up ul uc) T (0, 0))
  b2 : W.heap[w.heap.size + 2]? = some (.cells (four e0 0 e0 none 0 0) T (0, 0))
  keeps : Keeps (fun _ => False) w W
theorem PB.next {w W W1 : World} {x u cp up cl cc ul uc} (h : PB w W x u cp up cl cc ul uc) (hk : Keeps (fun _ => False) W W1) : PB w W1 x u cp up cl cc ul uc := ⟨hk.heap h.b0, hk.heap h.b1, hk.heap h.b2, h.keeps.trans hk⟩
theorem PB.start (w : World) (x u : Nd) (cp up : Option Addr) (cl cc ul uc : Nat) : PB w (((w.alloc (.cells (four x.k x.n x.t cp cl cc) T)).alloc (.cells (four u.k u.n u.t up ul uc) T)).alloc (.cells (four e0 0 e0 none 0 0) T)) x u cp up cl cc ul uc := by
  have k1 : Keeps (fun _ => False) w (w.alloc (.cells (four x.k x.n x.t cp cl cc) T)) := (Keeps.refl _ w).alloc _
  have k2 : Keeps (fun _ => False) (w.alloc (.cells (four x.k x.n x.t cp cl cc) T)) ((w.alloc (.cells (four x.k x.n x.t cp cl cc) T)).alloc (.cells (four u.k u.n u.t up ul uc) T)) := (Keeps.refl _ _).alloc _
  have k3 : Keeps (fun _ => False) ((w.alloc (.cells (four x.k x.n x.t cp cl cc) T)).alloc (.cells (four u.k u.n u.t up ul uc) T)) (((w.alloc (.cells (four x.k x.n x.t cp cl cc) T)).alloc (.cells (four u.k u.n u.t up ul uc) T)).alloc (.cells (four e0 0 e0 none 0 0) T)) := (Keeps.refl _ _).alloc _
  refine ⟨(k2.trans k3).heap (heap_alloc_new _ _), ?_, ?_, (k1.trans k2).trans k3⟩
  · have := k3.heap (heap_alloc_new (w.alloc (.cells (four x.k x.n x.t cp cl cc) T)) (.cells (four u.k u.n u.t up ul uc) T))
    simpa using this
  · have := heap_alloc_new ((w.alloc (.cells (four x.k x.n x.t cp cl cc) T)).alloc (.cells (four u.k u.n u.t up ul uc) T)) (.cells (four e0 0 e0 none 0 0) T)
    simpa using this

/-- What the store leaves: the new kid in its place. -/
def RPutC (D : Nat) (w2 : World) (g o : Nat) (z : Nd) (wx : World) : Prop :=
  ∃ W4 cp cl cc, Keeps (fun _ => False) w2 W4 ∧ Tv W4 (fun b => b < D ∨ w2.heap.size ≤ b) z.k z.t z.c cp cl cc ∧ wx = set4 W4 g o (.string z.k) (.int .i64 z.n) (.string z.t) (.slice cp cl cc)
theorem RPutC.of {D : Nat} {w2 W4 : World} {g o : Nat} {z : Nd} {cp : Option Addr} {cl cc : Nat} (hk : Keeps (fun _ => False) w2 W4) (ht : Tv W4 (fun b => b < D ∨ w2.heap.size ≤ b) z.k z.t z.c cp cl cc) :
    RPutC D w2 g o z (set4 W4 g o (.string z.k) (.int .i64 z.n) (.string z.t) (.slice cp cl cc)) := ⟨W4, cp, cl, cc, hk, ht, rfl⟩
set_option maxRecDepth 100000 in
set_option maxHeartbeats 3200000 in
theorem rput_any : ∀ (path : List Int) (x u y : Nd) (cp up : Option Addr) (cl cc ul uc : Nat) (A' : Nat → Prop) (D : Nat) (pp : Option Addr) (pl pc : Nat) (w : World), sub path x = some y → x.c.nodes ≤ 100000 → D ≤ w.heap.size → Tv w (fun b => b < D) x.k x.t x.c cp cl cc → Ints w A' path pp pl → pl ≤ pc → pc ≤ 9223372036854775807 → Tv w (fun b => b < D) u.k u.t u.c up ul uc →
    Calls Try.prog 66 #[tv x.k x.n x.t cp cl cc, .slice pp pl pc, tv u.k u.n u.t up ul uc] w (TreeV D w (put path x u)) := by
  intro path
  induction path with
  | nil =>
    intro x u y cp up cl cc ul uc A' D pp pl pc w hsub hxn hD h hp hpl hpc hu
    obtain rfl : pl = 0 := hp.len.symm
    obtain ⟨w1, hw1⟩ : ∃ w1, w1 = ((w.alloc (.cells (four x.k x.n x.t cp cl cc) T)).alloc (.cells (four u.k u.n u.t up ul uc) T)).alloc (.cells (four e0 0 e0 none 0 0) T) := ⟨_, rfl⟩
    have hB : PB w w1 x u cp up cl cc ul uc := by rw [hw1]; exact PB.start _ _ _ _ _ _ _ _ _
    obtain ⟨b0, b1, b2, b3, _⟩ := box4 hB.b1
    obtain ⟨r0, r1, r2, r3, q0, q1, q2, q3⟩ := box4 hB.b2
    have hfin : TreeV D w u (.returned (tv u.k u.n u.t up ul uc)) ((((w1.setCell ⟨w.heap.size + 2, 0, none⟩ (.string u.k)).setCell ⟨w.heap.size + 2, 1, none⟩ (.int .i64 u.n)).setCell ⟨w.heap.size + 2, 2, none⟩ (.string u.t)).setCell ⟨w.heap.size + 2, 3, none⟩ (.slice up ul uc)) := by
      have h4 := Keeps.four w1 (w.heap.size + 2) (.string u.k) (.int .i64 u.n) (.string u.t) (.slice up ul uc)
      have hk := hB.keeps.trans' h4 (fun b hb hl => by omega)
      exact ⟨up, ul, uc, rfl, (hu.next hk).mono (fun b hb => .inl hb), hk⟩
    have HF := Lib.hid hfin
    have HW := Lib.hid hw1
    clear hw1 hfin h hu hB
    go_enter Try.func66, Try.ntmps66
    go_upto_region 1 with fail
    rw [← HW.out]
    go_wp2_with fail
    refine bodyPost_ret (v := tv u.k u.n u.t up ul uc) (by simp [results, Try.results66, go_sem, r0, r1, r2, r3]) rfl ?_
    exact HF.out
  | cons i r ih =>
    intro x u y cp up cl cc ul uc A' D pp pl pc w hsub hxn hD h hp hpl hpc hu
    obtain ⟨w1, hw1⟩ : ∃ w1, w1 = ((w.alloc (.cells (four x.k x.n x.t cp cl cc) T)).alloc (.cells (four u.k u.n u.t up ul uc) T)).alloc (.cells (four e0 0 e0 none 0 0) T) := ⟨_, rfl⟩
    have hB : PB w w1 x u cp up cl cc ul uc := by rw [hw1]; exact PB.start _ _ _ _ _ _ _ _ _
    have hs1 : w1.heap.size = w.heap.size + 3 := by rw [hw1]; simp
    rcases kid_cases x.c i with ⟨hk0, _⟩ | ⟨k1, n1, t1, s1, r1, hdr, hk1, hge, hlt1⟩
    · simp [sub, hk0] at hsub
    have hsub1 : sub r ⟨k1, n1, t1, s1⟩ = some y := by simpa [sub, hk1] using hsub
    have hput : Hid (put (i :: r) x u = ⟨x.k, x.n, x.t, x.c.set i.toNat (put r ⟨k1, n1, t1, s1⟩ u)⟩) := put_cons u hk1
    have hlp : pl = r.length + 1 := by have := hp.len; simpa using this.symm
    subst hlp
    have hcl := h.len
    obtain ⟨kb, ko, rfl, hAk, hkb⟩ := h.kids.hasAddr (by omega)
    obtain ⟨pb, po, rfl, hAp, hpb, hpc0⟩ := hp.cells (by omega)
    have ht1 := h.next hB.keeps
    have hu1 := hu.next hB.keeps
    have hp1 := hp.top.keeps hB.keeps (fun _ _ h => h)
    obtain ⟨xs, hx1, hx2, hx3⟩ := ht1.kids.cells
    obtain ⟨it, hi0, hz0, hz1, hz2⟩ := info_parts Try.treeInfo
    have hclb : cl ≤ 100000 := by have := Fo.len_nodes x.c; omega
    obtain ⟨b0, b1, b2, b3, _⟩ := box4 hB.b0
    have hne : (((r.length + 1 : Nat) : Int) == 0) = false := by simp; omega
    have hne' : ((r.length : Int) + 1 == 0) = false := by simp; omega
    have HW := Lib.hid hw1
    have HI := Lib.hid ih
    have HDR := Lib.hid hdr
    have HK1 := Lib.hid hk1
    have HX1 := Lib.hid hx1
    have HX2 := Lib.hid hx2
    have HX3 := Lib.hid hx3
    clear hw1 ih hsub hk1 hdr hpc0 hx1 hx2 hx3
    go_enter Try.func66, Try.ntmps66
    go_upto_region 1 with fail
    rw [← HW.out]
    go_wp2_with (at_builtin; refine wpList_append_lies _ rfl _ _ _ rfl w1.heap.size T it _ 4 64 Try.underlying22 hi0 hz0 hz1 hz2 rfl (by decide) (.slice none 0 0) 0 [] rfl (World.ownsRow_nil _ _ _ _) ⟨kb, ko, none⟩ cl cc xs rfl HX1.out (fun j u hu => by rw [WideShapes.add_plain]; exact HX2.out j u hu) HX3.out (by omega) (by unfold maxLen; omega) (by omega) (Nat.le_refl _) w1.heap.size rfl ?_; intro g cap w2 hown hgrow hat hlt)
    simp only [Nat.zero_add, List.nil_append] at hown
    have hkw2 : Keeps (fun _ => False) w1 w2 := (Keeps.refl _ w1).grown hgrow (fun k hk => by simp [Value.ownBlock] at hk)
    have hg1 : w1.heap.size ≤ g := (hown.lt g rfl).1
    -- the kids in their new list
    have hnode : ∀ W, Keeps (fun _ => False) w2 W → ∀ j z, x.c.at? j = some z → ∃ cp cl cc, NodeAt W (fun b => b < D) g (j * 4) z.k z.n z.t z.c cp cl cc := by
      intro W hkW j z hz
      obtain ⟨cp3, cl3, cc3, hn3⟩ := ht1.kids.node hz
      have hj : j < cl := by
        rcases Nat.lt_or_ge j x.c.len with hh | hh
        · omega
        · rw [Fo.at?_none hh] at hz; simp at hz
      have hcell : ∀ d, d < 4 → W.cell? ⟨g, j * 4 + d, none⟩ = w1.cell? ⟨kb, ko + j * 4 + d, none⟩ := fun d hd => by
        have hlen : j * 4 + d < xs.length := by rw [HX1.out]; omega
        have e1 := hown.cellAt (j * 4 + d) (by omega)
        have e2 := HX2.out (j * 4 + d) _ (List.getElem?_eq_getElem hlen)
        rw [(hkW.cell (p := ⟨g, j * 4 + d, none⟩) hlt (fun h => h)), e1, List.getElem?_eq_getElem hlen, show ko + j * 4 + d = ko + (j * 4 + d) by omega, e2]
      refine ⟨cp3, cl3, cc3, hn3.size, hn3.lc, hn3.cm, ?_, ?_, ?_, ?_, hn3.kids.keeps (hkw2.trans hkW) (fun _ _ h => h)⟩
      · have := hcell 0 (by omega); simp only [Nat.add_zero] at this; rw [this]; exact hn3.c0
      · rw [hcell 1 (by omega)]; exact hn3.c1
      · rw [hcell 2 (by omega)]; exact hn3.c2
      · rw [hcell 3 (by omega)]; exact hn3.c3
    obtain ⟨cp1, cl1, cc1, hn1⟩ := hnode w2 (Keeps.refl _ _) i.toNat ⟨k1, n1, t1, s1⟩ (Fo.at?_drop HDR.out)
    have hsn1 : s1.nodes ≤ 100000 := by
      have h1 := Fo.nodes_drop i.toNat x.c
      rw [HDR.out] at h1
      simp only [Fo.nodes] at h1
      omega
    have hB2 := hB.next hkw2
    have hcall : Hid (∀ W (tp : Option Addr) (tl tc : Nat), Keeps (fun _ => False) w2 W → tl = r.length → (tl = 0 ∨ tp = some ⟨pb, po + 1, none⟩) → tl ≤ tc → tc ≤ 9223372036854775807 → Calls Try.prog 66 #[tv k1 n1 t1 cp1 cl1 cc1, .slice tp tl tc, tv u.k u.n u.t up ul uc] W (TreeV D W (put r ⟨k1, n1, t1, s1⟩ u))) := Lib.hid fun W tp tl tc hk htl htp h1 h2 => by
      subst htl
      have hint : Ints W (fun b => b < w.heap.size) r tp r.length := by
        refine ⟨rfl, by omega, fun hpos => ?_⟩
        rcases htp with h0 | h0
        · omega
        · obtain ⟨b, o, he, hb, hl, hc⟩ := (hp1.keeps (hkw2.trans hk) (fun _ _ h => h)).cells (by omega)
          simp only [Option.some.injEq, Addr.mk.injEq, and_true] at he
          obtain ⟨rfl, rfl⟩ := he
          refine ⟨pb, po + 1, h0, hb, hl, fun j hj => ?_⟩
          have := hc (j + 1) (by omega)
          rw [show po + (j + 1) = po + 1 + j by omega] at this
          simpa using this
      exact HI.out ⟨k1, n1, t1, s1⟩ u y cp1 up cl1 cc1 ul uc _ D tp r.length tc W hsub1 hsn1 (by have := hB.keeps.size; have := hkw2.size; have := hk.size; omega) (hn1.tv.next hk) hint h1 h2 (hu1.next (hkw2.trans hk))
    have p0 := hp1.at_ (j := 0) (show (i :: r).drop 0 = i :: r from rfl)
    have p0 : w2.cell? ⟨pb, po, none⟩ = some (.int .i64 i) := (hkw2.cell (p := ⟨pb, po, none⟩) (by have := hB.keeps.size; show pb < _; omega) (fun h => h)).trans (by simpa using p0)
    have a0 := hn1.c0
    have a1 := hn1.c1
    have a2 := hn1.c2
    have a3 := hn1.c3
    obtain ⟨u0, u1, u2, u3, _⟩ := box4 hB2.b1
    have hi2 : 0 ≤ i := hge
    have hi3 : i < (cl : Int) := by omega
    have HFT : Hid (∀ W, Keeps (fun _ => False) w2 W → W.cell? ⟨pb, po, none⟩ = some (.int .i64 i) ∧ W.cell? ⟨g, i.toNat * 4, none⟩ = some (.string k1) ∧ W.cell? ⟨g, i.toNat * 4 + 1, none⟩ = some (.int .i64 n1) ∧ W.cell? ⟨g, i.toNat * 4 + 2, none⟩ = some (.string t1) ∧ W.cell? ⟨g, i.toNat * 4 + 3, none⟩ = some (.slice cp1 cl1 cc1) ∧
        W.frozen? ⟨g, i.toNat * 4, none⟩ = false ∧ W.frozen? ⟨g, i.toNat * 4 + 1, none⟩ = false ∧ W.frozen? ⟨g, i.toNat * 4 + 2, none⟩ = false ∧ W.frozen? ⟨g, i.toNat * 4 + 3, none⟩ = false) := Lib.hid fun W hk => by
      have hf : ∀ o, W.frozen? ⟨g, o, none⟩ = false := fun o => (hk.frozen (p := ⟨g, o, none⟩) hlt (fun h => h)).trans (hown.frozenAt o)
      have hpb2 : pb < w2.heap.size := by have := hB.keeps.size; have := hkw2.size; omega
      exact ⟨(hk.cell (p := ⟨pb, po, none⟩) hpb2 (fun h => h)).trans p0, (hk.cell (p := ⟨g, i.toNat * 4, none⟩) hlt (fun h => h)).trans a0, (hk.cell (p := ⟨g, i.toNat * 4 + 1, none⟩) hlt (fun h => h)).trans a1, (hk.cell (p := ⟨g, i.toNat * 4 + 2, none⟩) hlt (fun h => h)).trans a2, (hk.cell (p := ⟨g, i.toNat * 4 + 3, none⟩) hlt (fun h => h)).trans a3, hf _, hf _, hf _, hf _⟩
    obtain ⟨z, hz⟩ : ∃ z, z = put r ⟨k1, n1, t1, s1⟩ u := ⟨_, rfl⟩
    rw [← hz] at hcall hput
    have HN := Lib.hid hnode
    have HOWN := Lib.hid hown
    have HGR := Lib.hid hgrow
    have HTX := Lib.hid h.size
    clear hnode hown hgrow hn1 hp1 ht1 hu1 hp h hu hz
    have h1l : (1 : Int) ≤ (r.length : Int) + 1 := by omega
    have hkk : Keeps (fun _ => False) w2 w2.drew := (Keeps.refl _ w2).drew
    go_cut [] from 8 (fun wx => RPutC D w2 g (i.toNat * 4) z wx)
    case first =>
      by_cases hpc1 : pc = 1
      · subst hpc1
        obtain rfl : r = [] := List.eq_nil_of_length_eq_zero (by omega)
        simp only [List.length_nil] at h1l
        go_region_law ((go_simp; go_at_call 66; refine (hcall.out _ _ 0 0 hkk rfl (.inl rfl) (by omega) (by omega)).mono ?_; rintro e W4 ⟨cp4, cl4, cc4, rfl, htv4, hk4⟩; obtain ⟨p0', g0, g1, g2, g3, f0, f1, f2, f3⟩ := HFT.out _ (hkk.trans hk4)))
        all_goals
          go_wp2_with fail
          go_meet
          case rel => exact RPutC.of (hkk.trans hk4) htv4
      · have hpc2 : (1 : Int) < (pc : Int) := by omega
        go_region_law ((go_simp; go_at_call 66; refine (hcall.out _ _ _ _ hkk rfl (.inr rfl) (by omega) (by omega)).mono ?_; rintro e W4 ⟨cp4, cl4, cc4, rfl, htv4, hk4⟩; obtain ⟨p0', g0, g1, g2, g3, f0, f1, f2, f3⟩ := HFT.out _ (hkk.trans hk4)))
        all_goals
          go_wp2_with fail
          go_meet
          case rel => exact RPutC.of (hkk.trans hk4) htv4
    case rest =>
      obtain ⟨W4, cp4, cl4, cc4, hk4, htv4, hwc⟩ := hcut
      obtain ⟨Wx, hWx⟩ : ∃ V, V = wc := ⟨_, rfl⟩
      subst hWx
      have hs12 := hkw2.size
      have hs24 := hk4.size
      have hx4 : Keeps (fun b => b = g) W4 Wx := by rw [hwc]; exact Keeps.set4 W4 g (i.toNat * 4) _ _ _ _
      have hsx := hx4.size
      have hcell0 : ∀ d, d < 4 → ∃ v, W4.cell? ⟨g, i.toNat * 4 + d, none⟩ = some v := fun d hd => by
        obtain ⟨_, g0, g1, g2, g3, _⟩ := HFT.out _ hk4
        match d, hd with
        | 0, _ => exact ⟨_, g0⟩
        | 1, _ => exact ⟨_, g1⟩
        | 2, _ => exact ⟨_, g2⟩
        | 3, _ => exact ⟨_, g3⟩
      have hkids : Kids Wx (fun b => b < D ∨ w1.heap.size ≤ b) (x.c.set i.toNat z) (some ⟨g, 0, none⟩) (x.c.set i.toNat z).len := by
        refine Kids.of_at (.inr hg1) (by omega) _ 0 (fun j y hy => ?_) (by rw [Fo.len_set]; omega)
        rw [Nat.zero_add]
        by_cases hij : i.toNat = j
        · subst hij
          rw [Fo.at?_set _ _ _ z (Fo.at?_drop HDR.out)] at hy
          simp only [Option.some.injEq] at hy
          subst hy
          obtain ⟨_, g0, g1, g2, g3, _⟩ := HFT.out _ hk4
          obtain ⟨e0, e1, e2, e3⟩ := set4_same (v0 := .string z.k) (v1 := .int .i64 z.n) (v2 := .string z.t) (v3 := .slice cp4 cl4 cc4) g0 g1 g2 g3
          rw [hwc]
          exact ⟨cp4, cl4, cc4, htv4.size, htv4.lc, htv4.cm, e0, e1, e2, e3, ((htv4.kids.keeps (hwc ▸ hx4) (fun b hb e => by subst e; rcases hb with h | h <;> omega))).mono (fun b hb => hb.imp id (fun h => by omega))⟩
        · rw [Fo.at?_set_ne _ _ _ _ hij] at hy
          obtain ⟨cp5, cl5, cc5, hn5⟩ := HN.out W4 hk4 j y hy
          have hoth : ∀ d, d < 4 → Wx.cell? ⟨g, j * 4 + d, none⟩ = W4.cell? ⟨g, j * 4 + d, none⟩ := fun d hd => by rw [hwc]; exact set4_other (by omega)
          refine ⟨cp5, cl5, cc5, hn5.size, hn5.lc, hn5.cm, ?_, ?_, ?_, ?_, (hn5.kids.keeps hx4 (fun b hb e => by omega)).mono (fun b hb => .inl hb)⟩
          · have := hoth 0 (by omega); simp only [Nat.add_zero] at this; rw [this]; exact hn5.c0
          · rw [hoth 1 (by omega)]; exact hn5.c1
          · rw [hoth 2 (by omega)]; exact hn5.c2
          · rw [hoth 3 (by omega)]; exact hn5.c3
      rw [Fo.len_set, hcl] at hkids
      have hBx : Wx.heap[w.heap.size]? = some (.cells (four x.k x.n x.t (some ⟨kb, ko, none⟩) cl cc) T (0, 0)) := (hx4.block _ (heap_lt (hB2.next hk4).b0) (by omega)).trans (hB2.next hk4).b0
      have hRx : Wx.heap[w.heap.size + 2]? = some (.cells (four e0 0 e0 none 0 0) T (0, 0)) := (hx4.block _ (heap_lt (hB2.next hk4).b2) (by omega)).trans (hB2.next hk4).b2
      obtain ⟨b0, b1, b2, b3, q0, q1, q2, q3⟩ := box4 hBx
      obtain ⟨r0, r1, r2, r3, y0, y1, y2, y3⟩ := box4 hRx
      have hcap : cl ≤ cap ∧ cap ≤ 9223372036854775807 := by
        rcases HOWN.out.2 with ⟨h1, _⟩ | ⟨g', cap', cur, h1, _, _, h3, h4, _⟩
        · simp at h1
        · simp only [Value.slice.injEq] at h1
          obtain ⟨_, _, rfl⟩ := h1
          unfold maxLen at h4
          exact ⟨h3, h4⟩
      have hkx : Keeps (fun _ => False) w Wx := (hB.keeps.trans (hkw2.trans hk4)).trans' hx4 (fun b hb hl => by omega)
      have hfin : ∀ W', Keeps (fun b => b = w.heap.size ∨ b = w.heap.size + 2) Wx W' → TreeV D w (put (i :: r) x u) (.returned (tv x.k x.n x.t (some ⟨g, 0, none⟩) cl cap)) W' := fun W' hk' => by
        rw [hput.out]
        exact ⟨some ⟨g, 0, none⟩, cl, cap, rfl, ⟨HTX.out, hcap.1, hcap.2, (hkids.keeps hk' (fun b hb e => by omega)).mono (fun b hb => hb.imp id (fun h => by omega))⟩, hkx.trans' hk' (fun b hb hl => by omega)⟩
      have HF := Lib.hid hfin
      clear hfin hkids hx4 hBx hRx hkx hwc hk4 htv4 hcell0
      go_wp2_with fail
      refine bodyPost_ret (v := tv x.k x.n x.t (some ⟨g, 0, none⟩) cl cap) (by simp [results, Try.results66, go_sem, r0, r1, r2, r3]) rfl ?_
      refine HF.out _ ?_
      have h0 := Keeps.refl (fun b => b = w.heap.size ∨ b = w.heap.size + 2) Wx
      exact ((((h0.setCell (p := ⟨w.heap.size, 3, none⟩) (fun _ => .inl rfl) _).setCell (p := ⟨w.heap.size + 2, 0, none⟩) (fun _ => .inr rfl) _).setCell (p := ⟨w.heap.size + 2, 1, none⟩) (fun _ => .inr rfl) _).setCell (p := ⟨w.heap.size + 2, 2, none⟩) (fun _ => .inr rfl) _).setCell (p := ⟨w.heap.size + 2, 3, none⟩) (fun _ => .inr rfl) _
end Go.Proofs.Ytnphhibfiklfjaa
