/-
  espalierlaw4.Kept; lists of bounds copied.
  Merged texts: XKept, XBClone.
-/
import Derived.Test.YtccoihmibkpedaaTwins

import Derived.Test.YtccoihmibkpedaaPkD

import Derived.Test.YtccoihmibkpedaaPkF

set_option linter.unusedVariables false

set_option linter.unusedSimpArgs false

/-!
  espalierlaw4.Kept: its walk.
-/
namespace Go.Proofs.Ytccoihmibkpedaa

open Go.RowKit Go.Shelf Go.Sort

set_option maxHeartbeats 800000 in
theorem Kept_any (x : Nd) (cp up : Option Addr) (cl cc ul uc : Nat) (A A' : Nat → Prop) (w : World) (h : Tv w A x.k x.t x.c cp cl cc) (hm : MarkT w A x.c cp cl cc) (h' : Tv w A' x.k x.t x.c up ul uc) (hn : x.c.nodes ≤ 3000) :
    Calls Try.prog 13 #[tv x.k x.n x.t cp cl cc, tv x.k x.n x.t up ul uc] w fun e w' => e = .returned (.bool true) ∧ Keeps (fun _ => False) w w' := by
  obtain ⟨w1, hw1⟩ : ∃ w1, w1 = (w.alloc (.cells (four x.k x.n x.t cp cl cc) T)).alloc (.cells (four x.k x.n x.t up ul uc) T) := ⟨_, rfl⟩
  have hK1 : Keeps (fun _ => False) w w1 := by rw [hw1]; exact ((Keeps.refl _ w).alloc _).alloc _
  have hb1 : w1.heap[w.heap.size]? = some (.cells (four x.k x.n x.t cp cl cc) T (0, 0)) := by
    rw [hw1]
    exact ((Keeps.refl (fun _ => False) (w.alloc (.cells (four x.k x.n x.t cp cl cc) T))).alloc _).heap (heap_alloc_new _ _)
  have hb2 : w1.heap[w.heap.size + 1]? = some (.cells (four x.k x.n x.t up ul uc) T (0, 0)) := by
    rw [hw1]
    have := heap_alloc_new (w.alloc (.cells (four x.k x.n x.t cp cl cc) T)) (.cells (four x.k x.n x.t up ul uc) T)
    simpa using this
  have ht1 := h.next hK1
  have hm1 := hm.next hK1
  have hE := Eq_any (x.c.nodes + 1) x.k x.k x.n x.n x.t x.t x.c x.c _ _ cp up cl cc ul uc w1 (by omega) ht1 (h'.next hK1)
  rw [eqB_self] at hE
  have hM : Hid (∀ W, Keeps (fun _ => False) w1 W → Calls Try.prog 51 #[tv x.k x.n x.t cp cl cc] W fun e w' => e = .returned (.bool true) ∧ Keeps (fun _ => False) W w') := Lib.hid fun W hk => marks_any (x.c.nodes + 1) x.k x.n x.t x.c cp cl cc A W (by omega) (by omega) (ht1.next hk) (hm1.next hk)
  obtain ⟨a0, a1, a2, a3, _⟩ := box4 hb1
  obtain ⟨b0, b1, b2, b3, _⟩ := box4 hb2
  have HW := Lib.hid hw1
  clear hw1 ht1 hm1 h hm h'
  go_enter Try.func13, Try.ntmps13
  go_upto_region 1 with fail
  rw [← HW.out]
  go_wp2_with fail
  refine hE.mono ?_
  clear hE a0 a1 a2 a3 b0 b1 b2 b3
  rintro e W ⟨rfl, hk⟩
  obtain ⟨a0, a1, a2, a3, _⟩ := box4 (hk.heap hb1)
  go_wp2_with fail
  refine (hM.out _ hk).mono ?_
  clear a0 a1 a2 a3
  rintro e W2 ⟨rfl, hk2⟩
  go_wp2_with fail
  go_ret
  exact ⟨rfl, (hK1.trans hk).trans hk2⟩

end Go.Proofs.Ytccoihmibkpedaa

/-!
  A list of bounds copied by append; the copy while its trees are copied too.
-/
namespace Go.Proofs.Ytccoihmibkpedaa

open Go.RowKit

theorem BindsAt.values {w : World} {A : Nat → Prop} : ∀ {bs : List Bind} {b o n : Nat}, BindsAt w A bs (some ⟨b, o, none⟩) n → ∃ xs : List Value, xs.length = n * 5 ∧ (∀ j u, xs[j]? = some u → w.cell? ⟨b, o + j, none⟩ = some u) ∧ (∀ u ∈ xs, u.oneCell' = true) ∧
    ∀ i nm x, bs[i]? = some (nm, x) → nm.size ≤ 140737488351232 ∧ ∃ cp cl cc, xs[i * 5]? = some (.string nm) ∧ xs[i * 5 + 1]? = some (.string x.k) ∧ xs[i * 5 + 2]? = some (.int .i64 x.n) ∧ xs[i * 5 + 3]? = some (.string x.t) ∧ xs[i * 5 + 4]? = some (.slice cp cl cc) ∧ Tv w A x.k x.t x.c cp cl cc
  | [], _, _, _, h => by
    have h0 : _ = 0 := h
    subst h0
    exact ⟨[], rfl, fun j u hu => by simp at hu, fun u hu => by simp at hu, fun i nm x hi => by simp at hi⟩
  | (nm, x) :: r, b, o, n, ⟨b', o', m, cp, cl, cc, hp, hn, hm, hb, hl, hs, hc, ht, hr⟩ => by
    simp only [Option.some.injEq, Addr.mk.injEq, and_true] at hp
    obtain ⟨rfl, rfl⟩ := hp
    obtain ⟨xs, h1, h2, h3, h4⟩ := BindsAt.values hr
    refine ⟨.string nm :: .string x.k :: .int .i64 x.n :: .string x.t :: .slice cp cl cc :: xs, by simp only [List.length_cons, h1, hn]; omega, fun j u hu => ?_, fun u hu => ?_, fun i nm' x' hi => ?_⟩
    · match j, hu with
      | 0, hu => obtain rfl := Option.some.inj hu; exact hc
      | 1, hu => obtain rfl := Option.some.inj hu; exact ht.c0
      | 2, hu => obtain rfl := Option.some.inj hu; exact ht.c1
      | 3, hu => obtain rfl := Option.some.inj hu; exact ht.c2
      | 4, hu => obtain rfl := Option.some.inj hu; exact ht.c3
      | j + 5, hu =>
        have := h2 j u (by simpa using hu)
        rwa [show o + 5 + j = o + (j + 5) by omega] at this
    · simp only [List.mem_cons] at hu
      rcases hu with rfl | rfl | rfl | rfl | rfl | hu
      · simp [Value.oneCell']
      · simp [Value.oneCell']
      · simp [Value.oneCell']
      · simp [Value.oneCell']
      · simp [Value.oneCell']
      · exact h3 u hu
    · match i, hi with
      | 0, hi =>
        simp only [List.getElem?_cons_zero, Option.some.injEq, Prod.mk.injEq] at hi
        obtain ⟨rfl, rfl⟩ := hi
        exact ⟨hs, cp, cl, cc, rfl, rfl, rfl, rfl, rfl, ht.tv⟩
      | i + 1, hi =>
        obtain ⟨g1, cp', cl', cc', g2, g3, g4, g5, g6, g7⟩ := h4 i nm' x' (by simpa using hi)
        have e : ∀ d, (i + 1) * 5 + d = (i * 5 + d) + 5 := fun d => by omega
        refine ⟨g1, cp', cl', cc', ?_, ?_, ?_, ?_, ?_, g7⟩
        · rw [show (i + 1) * 5 = i * 5 + 5 by omega]; simpa using g2
        · rw [e]; simpa using g3
        · rw [e]; simpa using g4
        · rw [e]; simpa using g5
        · rw [e]; simpa using g6
theorem BindsAt.ofAll {w : World} {A : Nat → Prop} {b : Nat} (hA : A b) (hb : b < w.heap.size) : ∀ {bs : List Bind} {o : Nat}, bs.length ≤ 9223372036854775807 → (∀ i nm x, bs[i]? = some (nm, x) → nm.size ≤ 140737488351232 ∧ ∃ cp cl cc, w.cell? ⟨b, o + i * 5, none⟩ = some (.string nm) ∧ NodeAt w A b (o + i * 5 + 1) x.k x.n x.t x.c cp cl cc) → BindsAt w A bs (some ⟨b, o, none⟩) bs.length
  | [], _, _, _ => rfl
  | (nm, x) :: r, o, hl, h => by
    obtain ⟨h1, cp, cl, cc, h2, h3⟩ := h 0 nm x rfl
    have hl' : r.length + 1 ≤ 9223372036854775807 := by simpa using hl
    refine ⟨b, o, r.length, cp, cl, cc, rfl, rfl, hl, hA, hb, h1, by simpa using h2, by simpa using h3, BindsAt.ofAll hA hb (by omega) fun i nm' x' hi => ?_⟩
    obtain ⟨g1, cp', cl', cc', g2, g3⟩ := h (i + 1) nm' x' (by simpa using hi)
    rw [show o + (i + 1) * 5 = o + 5 + i * 5 by omega] at g2 g3
    exact ⟨g1, cp', cl', cc', g2, g3⟩

/-- The copy: the first k trees are marked copies. -/
structure BK (g : Nat) (bs : List Bind) (k : Nat) (W : World) : Prop where
  blk : 0 < bs.length → ∃ cur, W.heap[g]? = some (.cells cur TB (0, 0))
  all : ∀ i nm x, bs[i]? = some (nm, x) → nm.size ≤ 140737488351232 ∧ ∃ cp cl cc, W.cell? ⟨g, i * 5, none⟩ = some (.string nm) ∧ NodeAt W (fun b => b ≠ g) g (i * 5 + 1) x.k x.n x.t x.c cp cl cc ∧ (i < k → MarkT W (fun b => b ≠ g) x.c cp cl cc)
theorem BK.next {g : Nat} {bs : List Bind} {k : Nat} {W W1 : World} (h : BK g bs k W) (hk : Keeps (fun _ => False) W W1) : BK g bs k W1 := by
  refine ⟨fun h0 => ?_, fun i nm x hi => ?_⟩
  · obtain ⟨cur, hc⟩ := h.blk h0
    exact ⟨cur, hk.heap hc⟩
  · obtain ⟨h1, cp, cl, cc, h2, h3, h4⟩ := h.all i nm x hi
    have hg := World.block_lt_of_cell? W _ h2
    exact ⟨h1, cp, cl, cc, (hk.cell (p := ⟨g, i * 5, none⟩) hg (fun h => h)).trans h2, h3.keeps hk (fun _ _ h => h) hg (fun h => h), fun hi => (h4 hi).next hk⟩
theorem BK.binds {g : Nat} {bs : List Bind} {k : Nat} {W : World} (h : BK g bs k W) {bp : Option Addr} (hbp : 0 < bs.length → bp = some ⟨g, 0, none⟩) (hl : bs.length ≤ 9223372036854775807) : ∃ A, BindsAt W A bs bp bs.length := by
  by_cases h0 : 0 < bs.length
  · obtain ⟨cur, hc⟩ := h.blk h0
    obtain rfl := hbp h0
    refine ⟨fun _ => True, BindsAt.ofAll trivial (heap_lt hc) hl fun i nm x hi => ?_⟩
    obtain ⟨h1, cp, cl, cc, h2, h3, _⟩ := h.all i nm x hi
    rw [Nat.zero_add]
    exact ⟨h1, cp, cl, cc, h2, h3.mono fun _ _ => trivial⟩
  · have hb : bs = [] := List.eq_nil_of_length_eq_zero (by omega)
    subst hb
    exact ⟨fun _ => True, rfl⟩
/-- One more tree is written. -/
theorem BK.set {g : Nat} {bs : List Bind} {k : Nat} {W W1 : World} (h : BK g bs k W) (hk : Keeps (fun _ => False) W W1) {nm : ByteArray} {x : Nd} (hx : bs[k]? = some (nm, x)) {cp : Option Addr} {cl cc : Nat}
    (ht : Tv W1 (fun b => W.heap.size ≤ b ∧ b < W1.heap.size) x.k x.t x.c cp cl cc) (hm : MarkT W1 (fun b => W.heap.size ≤ b ∧ b < W1.heap.size) x.c cp cl cc) :
    BK g bs (k + 1) ((((W1.setCell ⟨g, k * 5 + 1, none⟩ (.string x.k)).setCell ⟨g, k * 5 + 2, none⟩ (.int .i64 x.n)).setCell ⟨g, k * 5 + 3, none⟩ (.string x.t)).setCell ⟨g, k * 5 + 4, none⟩ (.slice cp cl cc)) ∧
      Keeps (fun b => b = g) W1 ((((W1.setCell ⟨g, k * 5 + 1, none⟩ (.string x.k)).setCell ⟨g, k * 5 + 2, none⟩ (.int .i64 x.n)).setCell ⟨g, k * 5 + 3, none⟩ (.string x.t)).setCell ⟨g, k * 5 + 4, none⟩ (.slice cp cl cc)) := by
  have h1 := h.next hk
  obtain ⟨W2, hW2⟩ : ∃ W2, W2 = ((((W1.setCell ⟨g, k * 5 + 1, none⟩ (.string x.k)).setCell ⟨g, k * 5 + 2, none⟩ (.int .i64 x.n)).setCell ⟨g, k * 5 + 3, none⟩ (.string x.t)).setCell ⟨g, k * 5 + 4, none⟩ (.slice cp cl cc)) := ⟨_, rfl⟩
  have hse : Keeps (fun b => b = g) W1 W2 := by
    rw [hW2]
    exact ((((Keeps.refl (fun b => b = g) W1).setCell (p := ⟨g, k * 5 + 1, none⟩) (fun _ => rfl) _).setCell (p := ⟨g, k * 5 + 2, none⟩) (fun _ => rfl) _).setCell (p := ⟨g, k * 5 + 3, none⟩) (fun _ => rfl) _).setCell (p := ⟨g, k * 5 + 4, none⟩) (fun _ => rfl) _
  rw [← hW2]
  have hpos : 0 < bs.length := by
    have := (List.getElem?_eq_some_iff.1 hx).1
    omega
  obtain ⟨cur, hcur⟩ := h1.blk hpos
  obtain ⟨cur0, hcur0⟩ := h.blk hpos
  have hgW := heap_lt hcur0
  obtain ⟨_, cp0, cl0, cc0, x0, x1, _⟩ := h1.all k nm x hx
  -- the cells of the block
  have hin : ∀ j v, W1.cell? ⟨g, j, none⟩ = some v → cur[j]? = some v := fun j v hv => by simpa [World.cell?, hcur] using hv
  have hsz : k * 5 + 4 < cur.size := by
    have := hin _ _ x1.c3
    obtain ⟨h, _⟩ := Array.getElem?_eq_some_iff.1 this
    omega
  have hblk : W2.heap[g]? = some (.cells ((((cur.setIfInBounds (k * 5 + 1) (.string x.k)).setIfInBounds (k * 5 + 2) (.int .i64 x.n)).setIfInBounds (k * 5 + 3) (.string x.t)).setIfInBounds (k * 5 + 4) (.slice cp cl cc)) TB (0, 0)) := by
    rw [hW2, heap_set (heap_set (heap_set (heap_set hcur _ _) _ _) _ _) _ _]
  have hcell : ∀ j v, W1.cell? ⟨g, j, none⟩ = some v → (j < k * 5 + 1 ∨ k * 5 + 4 < j) → W2.cell? ⟨g, j, none⟩ = some v := fun j v hv hj => by
    have h2 := hin j v hv
    have e1 : k * 5 + 1 ≠ j := by omega
    have e2 : k * 5 + 2 ≠ j := by omega
    have e3 : k * 5 + 3 ≠ j := by omega
    have e4 : k * 5 + 4 ≠ j := by omega
    simp only [World.cell?, hblk]
    simp [e1, e2, e3, e4, h2]
  have hA : ∀ b, (W.heap.size ≤ b ∧ b < W1.heap.size) → b ≠ g := fun b hb => by omega
  refine ⟨⟨fun _ => ⟨_, hblk⟩, fun i nm' x' hi => ?_⟩, hse⟩
  obtain ⟨g1, cp', cl', cc', g2, g3, g4⟩ := h1.all i nm' x' hi
  by_cases hik : i = k
  · subst hik
    rw [hx] at hi
    simp only [Option.some.injEq, Prod.mk.injEq] at hi
    obtain ⟨rfl, rfl⟩ := hi
    have k1 := ht.keeps hse (fun b hb e => hA b hb e)
    have k2 := hm.keeps hse (fun b hb e => hA b hb e)
    refine ⟨g1, cp, cl, cc, hcell _ _ g2 (by omega), ⟨ht.size, ht.lc, ht.cm, ?_, ?_, ?_, ?_, k1.kids.mono hA⟩, fun _ => k2.mono hA⟩
    · simp only [World.cell?, hblk]; simp [Array.getElem?_setIfInBounds]; omega
    · simp only [World.cell?, hblk]; simp [Array.getElem?_setIfInBounds]; omega
    · simp only [World.cell?, hblk]; simp [Array.getElem?_setIfInBounds]; omega
    · simp only [World.cell?, hblk]; simp [Array.getElem?_setIfInBounds]; omega
  · refine ⟨g1, cp', cl', cc', hcell _ _ g2 (by omega), ⟨g3.size, g3.lc, g3.cm, hcell _ _ g3.c0 (by omega), hcell _ _ g3.c1 (by omega), hcell _ _ g3.c2 (by omega), hcell _ _ g3.c3 (by omega), g3.kids.keeps hse (fun b hb e => hb e)⟩, fun hlt => (g4 (by omega)).keeps hse (fun b hb e => hb e)⟩

/-! ### 'append([]api.Bound(nil), bs...)' -/

theorem run_cloneB {P : Program} (w : World) (t ty : TypeId) (i : TypeInfo) (z : Value) (ht : P.underlying t = some (.slice TB)) (hi : P.info? TB = some i) (hz : i.zero = some z) (hs1 : i.size = 5) (hb8 : i.bytes = 80) (hzs : z.cells.size = 5)
    {A : Nat → Prop} {bs : List Bind} {bp : Option Addr} {bl : Nat} (bc : Nat) (h : BindsAt w A bs bp bl) (hl : bl ≤ 1000) :
    ∃ bp' bc' g w', (Builtin.append_ #[t, t] ty #[.slice none 0 0, .slice bp bl bc]).run P w = .ok (.slice bp' bl bc') w' ∧ BK g bs 0 w' ∧ (0 < bl → bp' = some ⟨g, 0, none⟩) ∧ w.heap.size ≤ g ∧ bl ≤ bc' ∧ bc' ≤ 9223372036854775807 ∧ Keeps (fun _ => False) w w' := by
  have hlen := h.len
  by_cases h0 : bl = 0
  · subst h0
    have hxs : bs = [] := List.eq_nil_of_length_eq_zero hlen
    subst hxs
    have hbk : ∀ W, BK w.heap.size [] 0 W := fun W => ⟨fun h => by simp at h, fun i nm x hi => by simp at hi⟩
    rcases bp with _ | ad
    · refine ⟨none, 0, w.heap.size, w, ?_, hbk w, fun h => by omega, Nat.le_refl _, Nat.le_refl _, by omega, Keeps.refl _ _⟩
      simp [Builtin.append_, run_underlying ht, sizeOf, typeInfo, hi, Builtin.lenOf, Builtin.firstCells]
    · obtain ⟨v', w', hr, h2, h3, h4, _⟩ := run_append_own_at (P := P) w w.heap.size t ty TB i z 5 80 ht hi hz hs1 hb8 hzs (by omega) (.slice none 0 0) 0 [] (World.ownsRow_nil _ _ _ _) ad 0 bc [] (by simp) (by simp) (by simp) (by simp [maxLen]) (by omega) (Nat.le_refl _)
      have hv : v' = .slice none 0 0 := h4.2 ⟨rfl, rfl⟩
      subst hv
      exact ⟨none, 0, w.heap.size, w', hr, hbk w', fun h => by omega, Nat.le_refl _, Nat.le_refl _, by omega, (Keeps.refl _ w).grown h3 (fun k hk => by simp [Value.ownBlock] at hk)⟩
  · obtain ⟨b, o, rfl, _, hbw⟩ := h.addr (by omega)
    obtain ⟨xs, hx1, hx2, hx3, hx4⟩ := h.values
    obtain ⟨v', w', hr, h2, h3, h4, _⟩ := run_append_own_at (P := P) w w.heap.size t ty TB i z 5 80 ht hi hz hs1 hb8 hzs (by omega) (.slice none 0 0) 0 [] (World.ownsRow_nil _ _ _ _) ⟨b, o, none⟩ bl bc xs hx1 (fun j u hu => by rw [WideShapes.add_plain]; exact hx2 j u hu) hx3 (by unfold maxLen; omega) (by omega) (Nat.le_refl _)
    simp only [Nat.zero_add, List.nil_append] at h2
    have hkk : Keeps (fun _ => False) w w' := (Keeps.refl _ w).grown h3 (fun k hk => by simp [Value.ownBlock] at hk)
    obtain ⟨_, h5⟩ := h2
    rcases h5 with ⟨_, h6, _⟩ | ⟨g, cap, cur, rfl, hg, hblk, hcap1, hcap2, hcsz, hcur⟩
    · omega
    · refine ⟨_, _, g, w', hr, ⟨fun _ => ⟨cur, hblk⟩, fun i nm x hi => ?_⟩, fun _ => rfl, hg, hcap1, by unfold maxLen at hcap2; exact hcap2, hkk⟩
      obtain ⟨g1, cp, cl, cc, q0, q1, q2, q3, q4, q5⟩ := hx4 i nm x hi
      have hc : ∀ j v, xs[j]? = some v → w'.cell? ⟨g, j, none⟩ = some v := fun j v hv => by
        have h7 : cur.toList[j]? = some v := by
          rw [← hcur, List.getElem?_take] at hv
          split at hv
          · exact hv
          · simp at hv
        simp only [World.cell?, hblk]
        simpa using h7
      have q6 := q5.top.next hkk
      refine ⟨g1, cp, cl, cc, hc _ _ q0, ⟨q6.size, q6.lc, q6.cm, hc _ _ q1, hc _ _ q2, hc _ _ q3, hc _ _ q4, q6.kids.mono (fun b hb => by omega)⟩, fun h => by omega⟩
theorem wpList_cloneB {P : Program} {ops : Array Oper} {rest : List Oper} {o : Oper} {a : Act} {w : World} {Q : Exit → Act → World → Prop} (hgd : o.guard = none) (s x : Operand) (t : TypeId)
    (ho : o.op = .call { callee := .builtin .append, args := #[s, x], argTypes := #[t, t] }) (i : TypeInfo) (z : Value) (ht : P.underlying t = some (.slice TB)) (hi : P.info? TB = some i) (hz : i.zero = some z) (hs1 : i.size = 5) (hb8 : i.bytes = 80) (hzs : z.cells.size = 5)
    (hs : a.eval s = .slice none 0 0) {A : Nat → Prop} {bs : List Bind} {bp : Option Addr} {bl : Nat} (bc : Nat) (hx : a.eval x = .slice bp bl bc) (hr : BindsAt w A bs bp bl) (hl : bl ≤ 1000)
    (h : ∀ bp' bc' g w', BK g bs 0 w' → (0 < bl → bp' = some ⟨g, 0, none⟩) → w.heap.size ≤ g → bl ≤ bc' → bc' ≤ 9223372036854775807 → Keeps (fun _ => False) w w' → wpList P ops Q rest (a.put o.dst (.slice bp' bl bc')) w') : wpList P ops Q (o :: rest) a w := by
  refine wpList_plain hgd fun K hK => ?_
  obtain ⟨bp', bc', g, w', hrun, h1, h2, h3, h4, h5, h6⟩ := run_cloneB (P := P) w t o.type i z ht hi hz hs1 hb8 hzs bc hr hl
  unfold Oper.wp execOp
  simp only [ho, resolve, invoke, builtin, Sem.run_bind, Sem.run_pure, Result.andThen_ok, List.map_toArray, List.map_cons, List.map_nil, hs, hx, hrun]
  exact hK _ _ (h bp' bc' g w' h1 h2 h3 h4 h5 h6)
end Go.Proofs.Ytccoihmibkpedaa
