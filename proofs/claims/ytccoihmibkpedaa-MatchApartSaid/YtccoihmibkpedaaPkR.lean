/-
  MatchApart: its data and its walk.
  Merged texts: XMApartP, XMApart.
-/
import Derived.Test.YtccoihmibkpedaaMFreshP

import Derived.Test.YtccoihmibkpedaaPkP

import Derived.Test.YtccoihmibkpedaaWhole4

import Derived.Test.YtccoihmibkpedaaMBeg

set_option linter.unusedVariables false

set_option linter.unusedSimpArgs false

/-!
  MatchApart: what stays; the paths that are taken into the book.
-/
namespace Go.Proofs.Ytccoihmibkpedaa

open Go.RowKit

theorem preK_plen : ∀ (f : Fo) (p : List Int) (i : Nat), ∀ e ∈ preK p i f, e.1.length ≤ p.length + f.nodes := by
  intro f
  induction f with
  | nil => intro p i e he; simp [preK] at he
  | cons k n t c r ihc ihr =>
    intro p i e he
    rw [preK_cons] at he
    simp only [pre, List.cons_append, List.mem_cons, List.mem_append] at he
    simp only [Fo.nodes]
    rcases he with rfl | he | he
    · simp only [List.length_append, List.length_cons, List.length_nil]; omega
    · have := ihc _ _ e he
      simp only [List.length_append, List.length_cons, List.length_nil] at this
      omega
    · have := ihr _ _ e he
      omega
theorem findF_small {p t : Nd} : (findF p t).length ≤ 1024 ∧ ∀ q ∈ findF p t, q.length ≤ 1024 := by
  unfold findF
  split
  · rename_i h
    have hn : t.c.nodes < 1024 := small_nodes (mayF_small h.2)
    refine ⟨?_, fun q hq => ?_⟩
    · rw [List.length_map]
      refine Nat.le_trans (List.length_filter_le _ _) ?_
      rw [pre_len]
      omega
    · obtain ⟨e, he, rfl⟩ := List.mem_map.1 hq
      have he := (List.mem_filter.1 he).1
      simp only [pre, List.mem_cons] at he
      rcases he with rfl | he
      · simp
      · have := preK_plen _ _ _ e he
        simp only [List.length_nil] at this
        omega
  · simp
/-- The trees in their boxes, the bounds. -/
structure MX (w W : World) (p t : Nd) (bs : List Bind) (cp tp bp : Option Addr) (cl cc tl tc bl : Nat) : Prop where
  bp' : W.heap[w.heap.size]? = some (.cells (four p.k p.n p.t cp cl cc) T (0, 0))
  bt : W.heap[w.heap.size + 1]? = some (.cells (four t.k t.n t.t tp tl tc) T (0, 0))
  ap : Tv W (fun b => b < w.heap.size) p.k p.t p.c cp cl cc
  at' : Tv W (fun b => b < w.heap.size) t.k t.t t.c tp tl tc
  ab : BindsAt W (fun b => b < w.heap.size) bs bp bl
section

variable {w W W' : World} {p t : Nd} {bs : List Bind} {cp tp bp : Option Addr} {cl cc tl tc bl : Nat}

theorem MX.low (h : MX w W p t bs cp tp bp cl cc tl tc bl) : w.heap.size + 1 < W.heap.size := heap_lt h.bt
theorem MX.keeps {S : Nat → Prop} (h : MX w W p t bs cp tp bp cl cc tl tc bl) (hk : Keeps S W W') (hS : ∀ b, S b → w.heap.size + 1 < b) : MX w W' p t bs cp tp bp cl cc tl tc bl :=
  ⟨(hk.block _ (heap_lt h.bp') (fun e => by have := hS _ e; omega)).trans h.bp', (hk.block _ (heap_lt h.bt) (fun e => by have := hS _ e; omega)).trans h.bt, h.ap.keeps hk (fun b hb e => by have := hS _ e; omega), h.at'.keeps hk (fun b hb e => by have := hS _ e; omega), h.ab.keeps hk (fun b hb e => by have := hS _ e; omega)⟩
theorem MX.next (h : MX w W p t bs cp tp bp cl cc tl tc bl) (hk : Keeps (fun _ => False) W W') : MX w W' p t bs cp tp bp cl cc tl tc bl := h.keeps hk (fun _ h => h.elim)
theorem MX.start {A A' A2 : Nat → Prop} (h : Tv w A p.k p.t p.c cp cl cc) (h' : Tv w A' t.k t.t t.c tp tl tc) (hB : BindsAt w A2 bs bp bl) :
    MX w ((w.alloc (.cells (four p.k p.n p.t cp cl cc) T)).alloc (.cells (four t.k t.n t.t tp tl tc) T)) p t bs cp tp bp cl cc tl tc bl ∧ Keeps (fun _ => False) w ((w.alloc (.cells (four p.k p.n p.t cp cl cc) T)).alloc (.cells (four t.k t.n t.t tp tl tc) T)) := by
  have hk : Keeps (fun _ => False) w ((w.alloc (.cells (four p.k p.n p.t cp cl cc) T)).alloc (.cells (four t.k t.n t.t tp tl tc) T)) := ((Keeps.refl _ w).alloc _).alloc _
  refine ⟨⟨((Keeps.refl (fun _ => False) _).alloc _).heap (heap_alloc_new _ _), ?_, h.top.next hk, h'.top.next hk, hB.top.next hk⟩, hk⟩
  have := heap_alloc_new (w.alloc (.cells (four p.k p.n p.t cp cl cc) T)) (.cells (four t.k t.n t.t tp tl tc) T)
  simpa using this
theorem MX.cells (h : MX w W p t bs cp tp bp cl cc tl tc bl) :
    (W.cell? ⟨w.heap.size, 0, none⟩ = some (.string p.k) ∧ W.cell? ⟨w.heap.size, 1, none⟩ = some (.int .i64 p.n) ∧ W.cell? ⟨w.heap.size, 2, none⟩ = some (.string p.t) ∧ W.cell? ⟨w.heap.size, 3, none⟩ = some (.slice cp cl cc)) ∧
    (W.cell? ⟨w.heap.size + 1, 0, none⟩ = some (.string t.k) ∧ W.cell? ⟨w.heap.size + 1, 1, none⟩ = some (.int .i64 t.n) ∧ W.cell? ⟨w.heap.size + 1, 2, none⟩ = some (.string t.t) ∧ W.cell? ⟨w.heap.size + 1, 3, none⟩ = some (.slice tp tl tc)) := by
  obtain ⟨q0, q1, q2, q3, _⟩ := box4 h.bp'
  obtain ⟨r0, r1, r2, r3, _⟩ := box4 h.bt
  exact ⟨⟨q0, q1, q2, q3⟩, r0, r1, r2, r3⟩
end

/-- Behind i of the paths of one answer: B: the world's size ahead of the answer; W5: behind it. -/
structure L3 (D pb B K : Nat) (l : Value) (vs : List Value) (cs : List (Nat × List Value)) (W5 : World) (i : Nat) (bp : Option Addr) (bl bc : Nat) (vB : List Value) (cB : List (Nat × List Value)) (X : World) : Prop where
  bk : B3 D pb X (.slice bp bl bc) vB cB
  len : vB.length ≤ K + i
  sm : ∀ (i g n cap : Nat), vB[i]? = some (.slice (some ⟨g, 0, none⟩) n cap) → n ≤ 100000
  keeps : Keeps (fun b => pb ≤ b) W5 X
  fresh : ∀ b, Lists.Blk (.slice bp bl bc) vB b → b < B ∨ (∃ q v, q < i ∧ vs[q]? = some v ∧ v.ownBlock = some b) ∨ W5.heap.size ≤ b
  row : X.ownsRow B TI 1 l vs.length vs
  rest : ∀ (q : Nat) (v : Value) (c : Nat × List Value), i ≤ q → vs[q]? = some v → cs[q]? = some c → X.ownsRow B 3 1 v c.1 c.2
theorem L3.step {D pb B K : Nat} {l : Value} {vs : List Value} {cs : List (Nat × List Value)} {W5 X X2 : World} {i : Nat} {bp bp2 : Option Addr} {bl bc bl2 bc2 : Nat} {vB : List Value} {cB cB2 : List (Nat × List Value)} (h : L3 D pb B K l vs cs W5 i bp bl bc vB cB X)
    (hL : Lists B TI 3 1 W5 l vs cs) (hB5 : B ≤ W5.heap.size) (hpbB : pb < B) {vp : Option Addr} {n vc : Nat} {xs : List Value} (hv : vs[i]? = some (.slice vp n vc)) (hc : cs[i]? = some (n, xs)) (hn : n ≤ 100000)
    (hbk : B3 D pb X2 (.slice bp2 bl2 bc2) (vB ++ [.slice vp n vc]) cB2) (hk : Keeps (fun b => b = pb ∨ Lists.Blk (.slice bp bl bc) vB b ∨ (Value.slice vp n vc).ownBlock = some b) X X2)
    (hD : pb < D) (hf : ∀ b, Lists.Blk (.slice bp2 bl2 bc2) (vB ++ [.slice vp n vc]) b → Lists.Blk (.slice bp bl bc) vB b ∨ (Value.slice vp n vc).ownBlock = some b ∨ X.heap.size ≤ b) :
    L3 D pb B K l vs cs W5 (i + 1) bp2 bl2 bc2 (vB ++ [.slice vp n vc]) cB2 X2 := by
  have hs := h.keeps.size
  have hblkl : ∀ b, Lists.Blk (.slice bp bl bc) vB b → ∀ (q : Nat) (v : Value), i ≤ q → vs[q]? = some v → v.ownBlock ≠ some b := fun b hb q v hq hvq e => by
    have h1 := hL.lo (.inr ⟨v, List.mem_of_getElem? hvq, e⟩)
    rcases h.fresh b hb with h2 | ⟨q2, v2, h2, h3, h4⟩ | h2
    · omega
    · have := hL.apart q2 q v2 v b h3 hvq h4 e
      omega
    · omega
  have hblkr : ∀ b, Lists.Blk (.slice bp bl bc) vB b → l.ownBlock ≠ some b := fun b hb e => by
    have h1 := hL.row.lt b e
    rcases h.fresh b hb with h2 | ⟨q2, v2, h2, h3, h4⟩ | h2
    · omega
    · exact hL.ne_row (by decide) h3 h4 e
    · omega
  refine ⟨hbk, by rw [List.length_append]; have := h.len; simp; omega, fun i' g n' cap' hv' => ?_, h.keeps.trans' hk (fun b hb hl => ?_), fun b hb => ?_, ownsRow_same h.row (fun b hb => ?_), fun q v c hq hvq hcq => ?_⟩
  · by_cases hi : i' < vB.length
    · rw [List.getElem?_append_left hi] at hv'
      exact h.sm i' g n' cap' hv'
    · have hi2 := (List.getElem?_eq_some_iff.1 hv').1
      have hi3 : i' = vB.length := by simp at hi2; omega
      subst hi3
      rw [List.getElem?_append_right (Nat.le_refl _), Nat.sub_self] at hv'
      simp only [List.getElem?_cons_zero, Option.some.injEq, Value.slice.injEq] at hv'
      omega
  · rcases hb with hb | hb | hb
    · omega
    · have := (h.bk.lists.lo hb).1; omega
    · have := (hL.lo (.inr ⟨_, List.mem_of_getElem? hv, hb⟩)).1; omega
  · rcases hf b hb with h1 | h1 | h1
    · rcases h.fresh b h1 with h2 | ⟨q2, v2, h2, h3, h4⟩ | h2
      · exact .inl h2
      · exact .inr (.inl ⟨q2, v2, by omega, h3, h4⟩)
      · exact .inr (.inr h2)
    · exact .inr (.inl ⟨i, _, by omega, hv, h1⟩)
    · exact .inr (.inr (by omega))
  · have hb : l.ownBlock = some b := by simpa using hb
    exact hk.block b (h.row.lt b hb).2 (fun e => by
      rcases e with e | e | e
      · have := (hL.row.lt b hb).1; omega
      · exact hblkr b e hb
      · exact hL.ne_row (by decide) hv e hb)
  · have h0 := h.rest q v c (by omega) hvq hcq
    refine ownsRow_same h0 (fun b hb => ?_)
    have hb : v.ownBlock = some b := by simpa using hb
    exact hk.block b (h0.lt b hb).2 (fun e => by
      rcases e with e | e | e
      · have := (h0.lt b hb).1; omega
      · exact hblkl b e q v (by omega) hvq hb
      · have := hL.apart i q _ v b hv hvq e hb; omega)
theorem L3.free {D pb B K : Nat} {l : Value} {vs : List Value} {cs : List (Nat × List Value)} {W5 X : World} {i : Nat} {bp : Option Addr} {bl bc : Nat} {vB : List Value} {cB : List (Nat × List Value)} (h : L3 D pb B K l vs cs W5 i bp bl bc vB cB X)
    (hL : Lists B TI 3 1 W5 l vs cs) (hDB : D ≤ B) {v : Value} (hv : vs[i]? = some v) : ∀ b, v.ownBlock = some b → D ≤ b ∧ ¬ Lists.Blk (.slice bp bl bc) vB b := fun b hb => by
  have h1 := hL.lo (.inr ⟨v, List.mem_of_getElem? hv, hb⟩)
  refine ⟨by omega, fun e => ?_⟩
  rcases h.fresh b e with h2 | ⟨q2, v2, h2, h3, h4⟩ | h2
  · omega
  · have := hL.apart q2 i v2 v b h3 hv h4 hb; omega
  · omega
end Go.Proofs.Ytccoihmibkpedaa

/-!
  espalierlaw24.MatchApart: its walk.
-/
namespace Go.Proofs.Ytccoihmibkpedaa

open Go.RowKit

theorem RowRep.blen {w : World} : ∀ {f : Fo} {xs : List Value} {bs : List Nat}, RowRep w f xs bs → bs.length ≤ f.nodes
  | .nil, _, _, ⟨_, rfl⟩ => by simp
  | .cons k n t c r, _, _, ⟨cp, cl, cc, ys, bs1, xs', bs2, _, rfl, _, _, h1, h2⟩ => by
    have e1 := RowRep.blen h1
    have e2 := RowRep.blen h2
    have e3 : (sb cp cl cc).length ≤ 1 := by unfold sb; cases (Value.slice cp cl cc).ownBlock <;> simp
    simp only [List.length_append, Fo.nodes]
    omega
theorem mlightF_parts' {p t : Nd} {bs : List Bind} (h : mlightF p t bs = true) : True ∧ True ∧ bs.length < 50 ∧ True := by
  unfold mlightF at h
  simp only [Bool.and_eq_true, decide_eq_true_eq] at h
  exact ⟨trivial, trivial, h.1.2, trivial⟩
set_option maxRecDepth 100000 in
set_option maxHeartbeats 12800000 in
theorem matchApart_any (p t : Nd) (bs : List Bind) (cp tp bp : Option Addr) (cl cc tl tc bl bc : Nat) (A A' A2 : Nat → Prop) (w : World) (h : Tv w A p.k p.t p.c cp cl cc) (h' : Tv w A' t.k t.t t.c tp tl tc) (hB : BindsAt w A2 bs bp bl) (hbc : bl ≤ bc) (hbc2 : bc ≤ 9223372036854775807) :
    Calls Try.prog 5 #[tv p.k p.n p.t cp cl cc, tv t.k t.n t.t tp tl tc, .slice bp bl bc] w fun e w' => e = .returned (.bool true) ∧ Keeps (fun _ => False) w w' := by
  obtain ⟨hG, hK0⟩ := MX.start (p := p) (t := t) h h' hB
  have hbl0 : bs.length = bl := hB.len
  have HBL := Lib.hid hbl0
  obtain ⟨W0, hW0⟩ : ∃ X, X = (w.alloc (.cells (four p.k p.n p.t cp cl cc) T)).alloc (.cells (four t.k t.n t.t tp tl tc) T) := ⟨_, rfl⟩
  rw [← hW0] at hG hK0
  have HW0 := Lib.hid hW0
  clear h h' hB hbl0 hW0
  go_enter Try.func5, Try.ntmps5
  go_upto_region 1 with fail
  rw [← HW0.out]
  go_wp2_with fail
  refine (mbegun_any _).mono ?_
  rintro e W1 ⟨rfl, hk⟩
  have hG := hG.next hk
  have hK1 := hK0.trans hk
  clear hk hK0
  have hz := mlight_any 0 p t bs cp tp bp cl cc tl tc bl bc _ _ _ W1 hG.ap hG.at' hG.ab hbc hbc2
  obtain ⟨⟨p0, p1, p2, p3⟩, ⟨t0, t1, t2, t3⟩⟩ := hG.cells
  obtain ⟨lt, hlt⟩ : ∃ v, mlightF p t bs = v := ⟨_, rfl⟩
  rw [hlt] at hz
  have HLT := Lib.hid hlt
  clear hlt
  go_wp2_with fail
  refine hz.mono ?_
  clear hz p0 p1 p2 p3 t0 t1 t2 t3
  rintro e W2 ⟨rfl, hk⟩
  have hG := hG.next hk
  have HK2 := Lib.hid (hK1.trans hk)
  clear hk hK1
  cases lt with
  | false =>
    go_wp2_with fail
    go_ret
    exact ⟨rfl, HK2.out⟩
  | true =>
    obtain ⟨_, _, hb50, _⟩ := mlightF_parts' HLT.out
    have hblz : bl ≤ 17592186044416 := by have := HBL.out; omega
    have hfs := findF_small (p := p) (t := t)
    have hz := RFind_any p t cp tp cl cc tl tc _ _ W2 hG.ap hG.at'
    obtain ⟨L, hL⟩ : ∃ L, findF p t = L := ⟨_, rfl⟩
    have hC1 : ∀ W A A', Tv W A p.k p.t p.c cp cl cc → Tv W A' t.k t.t t.c tp tl tc → Calls Try.prog 22 #[tv p.k p.n p.t cp cl cc, tv t.k t.n t.t tp tl tc] W (MFindR L W) := fun W A A' h h' => by rw [← hL]; exact MFind_any p t cp tp cl cc tl tc A A' W h h'
    rw [hL] at hz hfs
    have C1 := Lib.hid hC1
    have HFS := Lib.hid hfs
    obtain ⟨⟨p0, p1, p2, p3⟩, ⟨t0, t1, t2, t3⟩⟩ := hG.cells
    clear hL hC1 hfs hb50
    go_wp2_with fail
    refine hz.mono ?_
    clear hz p0 p1 p2 p3 t0 t1 t2 t3
    rintro e W3 ⟨np, nl, nc, vsW, rfl, hPW, hk3⟩
    obtain ⟨W4, hW4⟩ : ∃ X, X = W3.alloc (.cells #[.slice none 0 0] T3) := ⟨_, rfl⟩
    have hk34 : Keeps (fun _ => False) W3 W4 := by rw [hW4]; exact (Keeps.refl _ _).alloc _
    have hs4 : W4.heap.size = W3.heap.size + 1 := by rw [hW4]; simp
    have hb0 : B3 (W3.heap.size + 1) W3.heap.size W4 (.slice none 0 0) [] [] := ⟨by rw [hW4]; exact heap_alloc_new _ _, ⟨World.ownsRow_nil _ _ _ _, rfl, fun i v c hv => by simp at hv, fun i j v v' b hv => by simp at hv⟩, fun i g n cap hv => by simp at hv⟩
    have hG4 := hG.next (hk3.trans hk34)
    have hpbw : w.heap.size + 1 < W3.heap.size := by have := (hG.next hk3).low; omega
    have HK4 := Lib.hid ((HK2.out.trans hk3).trans hk34)
    have HW4 := Lib.hid hW4
    have HB0 := Lib.hid hb0
    have HG4 := Lib.hid hG4
    have HPW := Lib.hid hPW
    have HK34 := Lib.hid hk34
    have HS4 := Lib.hid hs4
    have HPB := Lib.hid hpbw
    clear hW4 hk34 hs4 hb0 hG4 hpbw hPW hG hk3
    go_upto_region 7 with fail
    rw [← HW4.out]
    go_wp2_with fail
    go_loopg [9] 2 (fun m i W => ∃ k : Nat, k + m = 2 ∧ i = .int .i64 k ∧ ∃ qp ql qc vB cB, B3 (W3.heap.size + 1) W3.heap.size W (.slice qp ql qc) vB cB ∧ vB.length ≤ k * 1024 ∧ (∀ (i g n cap : Nat), vB[i]? = some (.slice (some ⟨g, 0, none⟩) n cap) → n ≤ 100000) ∧ Keeps (fun b => W3.heap.size ≤ b) W4 W)
    case atStart => exact ⟨0, by omega, rfl, none, 0, 0, [], [], HB0.out, by simp, fun i g n cap hv => by simp at hv, Keeps.refl _ _⟩
    case round =>
      obtain ⟨W, hW⟩ : ∃ X, X = wr := ⟨_, rfl⟩
      subst hW
      obtain ⟨k, hkm, rfl, qp, ql, qc, vB, cB, hBk, hvB, hsm, hkW⟩ := hrel
      have hGW := HG4.out.keeps hkW (fun b hb => by have := HPB.out; omega)
      have HKM := Lib.hid hkm
      have HBK := Lib.hid hBk
      have HVB := Lib.hid hvB
      have HSM := Lib.hid hsm
      have HKW := Lib.hid hkW
      have hkz : (0 : Int) ≤ (k : Int) := Int.natCast_nonneg _
      have hsW := hkW.size
      have hsW4 := HS4.out
      have hsWW : W3.heap.size + 1 ≤ W.heap.size := by omega
      clear hkm hBk hvB hsm hkW hsW hsW4
      by_cases hk2 : k < 2
      · have hz := C1.out W _ _ hGW.ap hGW.at'
        obtain ⟨⟨p0, p1, p2, p3⟩, ⟨t0, t1, t2, t3⟩⟩ := hGW.cells
        clear hGW
        go_wp2_with fail
        refine hz.mono ?_
        clear hz p0 p1 p2 p3 t0 t1 t2 t3
        rintro e W5 ⟨lp, ll, lc, vs, rfl, hP, hk5⟩
        have hll : ll = vs.length := row_len hP.row
        subst hll
        have hkW3 : Keeps (fun b => W3.heap.size ≤ b) W3 W5 := ((HK34.out.mono (S' := fun b => W3.heap.size ≤ b) (fun _ h _ => h.elim)).trans HKW.out).trans' hk5 (fun _ h => h.elim)
        have hPW5 : PathsI W2.heap.size W5 L np nl nc vsW := Lists.keeps HPW.out hkW3 (fun b hb e => by have := (Lists.lo HPW.out e).2; omega)
        have hz := mPaths_any L W.heap.size W2.heap.size lp np vs.length lc nl nc vs vsW W5 hP hPW5
        have HP := Lib.hid hP
        have HK5 := Lib.hid hk5
        clear hkW3 hPW5 hP hk5
        go_wp2_with fail
        refine hz.mono ?_
        clear hz
        rintro e W6 ⟨rfl, hk6⟩
        have hP6 : PathsI W.heap.size W6 L lp vs.length lc vs := Lists.keeps HP.out hk6 (fun _ h => h.elim)
        have HP6 := Lib.hid hP6
        have HK6 := Lib.hid (HK5.out.trans hk6)
        have hlen : vs.length = L.length := hP6.len
        have HLEN := Lib.hid hlen
        have hs6 : W.heap.size ≤ W6.heap.size := HK6.out.size
        have hvz : (vs.length : Int) ≤ 1024 := by have := HFS.out.1; omega
        have h0 : L3 (W3.heap.size + 1) W3.heap.size W.heap.size vB.length (.slice lp vs.length lc) vs (L.map fun p => (p.length, p.map vint)) W6 0 qp ql qc vB cB W6 :=
          ⟨HBK.out.next HK6.out, Nat.le_refl _, HSM.out, Keeps.refl _ _, fun b hb => .inl (HBK.out.lists.lo hb).2, hP6.row, fun q v c _ hv hc => hP6.rows q v c hv hc⟩
        have HL0 := Lib.hid h0
        clear hlen h0 hP6 hk6
        go_wp2_with fail
        go_loopg [11] vs.length (fun m i X => ∃ q : Nat, q + m = vs.length ∧ i = .int .i64 q ∧ ∃ qp' ql' qc' vB' cB', L3 (W3.heap.size + 1) W3.heap.size W.heap.size vB.length (.slice lp vs.length lc) vs (L.map fun p => (p.length, p.map vint)) W6 q qp' ql' qc' vB' cB' X)
        case atStart => exact ⟨0, by omega, rfl, qp, ql, qc, vB, cB, HL0.out⟩
        case round =>
          obtain ⟨X, hX⟩ : ∃ Y, Y = wr := ⟨_, rfl⟩
          subst hX
          obtain ⟨q, hqm, rfl, qp', ql', qc', vB', cB', hL3⟩ := hrel
          have HQM := Lib.hid hqm
          have HL3 := Lib.hid hL3
          have hq0 : (0 : Int) ≤ (q : Int) := Int.natCast_nonneg _
          clear hqm
          by_cases hqv : q < vs.length
          · obtain ⟨v, hv⟩ : ∃ v, vs[q]? = some v := ⟨_, List.getElem?_eq_getElem hqv⟩
            obtain ⟨pq, hpq⟩ : ∃ pq, L[q]? = some pq := ⟨_, List.getElem?_eq_getElem (by rw [← HLEN.out]; exact hqv)⟩
            have hc : (L.map fun p => (p.length, p.map vint))[q]? = some (pq.length, pq.map vint) := by rw [List.getElem?_map, hpq]; rfl
            have hpl : pq.length ≤ 1024 := HFS.out.2 pq (List.mem_of_getElem? hpq)
            have hrv := hL3.rest q v _ (Nat.le_refl _) hv hc
            obtain ⟨vp, vc, rfl, hvc1, hvc2, _⟩ := ownsRow_slice hrv
            have hfree := hL3.free HP6.out (by omega) hv
            have hr0 := ownsRow_low hrv
            obtain ⟨gl, rfl⟩ : ∃ gl, lp = some ⟨gl, 0, none⟩ := by
              obtain ⟨pp, cap', he, _, _, h3⟩ := ownsRow_slice hL3.row
              simp only [Value.slice.injEq] at he
              obtain ⟨rfl, _, _⟩ := he
              exact h3 (by omega)
            have d0 : X.cell? ⟨gl, q, none⟩ = some (.slice vp pq.length vc) := by
              have := hL3.row.cells (g := gl) rfl q _ hv
              rwa [add0] at this
            have hXs : W3.heap.size + 1 ≤ X.heap.size := by have := hL3.keeps.size; omega
            have hvl := hL3.len
            have hvb := HVB.out
            have hz := take3_any (W3.heap.size + 1) W3.heap.size qp' ql' qc' vB' cB' vp pq.length vc (pq.map vint) X hL3.bk (by omega) hXs hr0 hfree (by omega) (by omega)
            have hi1 : (q : Int) < (vs.length : Int) := by omega
            have HV := Lib.hid hv
            have HC := Lib.hid hc
            have HPL := Lib.hid hpl
            clear hrv hr0 hfree hv hc hpl hpq hL3 hvl hvb hvc1 hvc2
            go_wp2_with fail
            refine hz.mono ?_
            clear hz d0
            rintro e X2 ⟨⟨u, rfl⟩, qp2, ql2, qc2, cB2, hb2, hkx, hfx⟩
            have hst := HL3.out.step HP6.out hs6 (by omega) HV.out HC.out (by have := HPL.out; omega) hb2 hkx (by omega) hfx
            have HST := Lib.hid hst
            clear hb2 hkx hfx hst
            go_wp2_with fail
            go_roundg (gk - 1)
            case measure => have := HQM.out; omega
            case rel => exact ⟨q + 1, by have := HQM.out; omega, by go_num, _, _, _, _, _, HST.out⟩
          · have hle : vB'.length ≤ (k + 1) * 1024 := by
              have h1 := hL3.len
              have h2 := HVB.out
              have h3 := HLEN.out
              have h4 := HFS.out.1
              have h5 := HQM.out
              omega
            have hkf : Keeps (fun b => W3.heap.size ≤ b) W4 X := (HKW.out.trans' HK6.out (fun _ h => h.elim)).trans hL3.keeps
            have HLE := Lib.hid hle
            have HKF := Lib.hid hkf
            clear hle hkf hL3
            go_wp2_with fail
            go_roundg (2 - (k + 1))
            case measure => have := HKM.out; omega
            case rel => exact ⟨k + 1, by have := HKM.out; omega, by go_num, qp', ql', qc', vB', cB', HL3.out.bk, HLE.out, HL3.out.sm, HKF.out⟩
      · have hz := Fill_any p bs cp bp cl cc bl bc _ _ W hGW.ap hGW.ab hbc hbc2 hblz
        have hC3 : ∀ W' A A', Tv W' A p.k p.t p.c cp cl cc → BindsAt W' A' bs bp bl → Calls Try.prog 16 #[tv p.k p.n p.t cp cl cc, .slice bp bl bc] W' (TreeRes W' (fillF p bs)) := fun W' A A' h h' => Fill_any p bs cp bp cl cc bl bc A A' W' h h' hbc hbc2 hblz
        have hC4 : ∀ W' A A', Tv W' A p.k p.t p.c cp cl cc → BindsAt W' A' bs bp bl → (∀ b, A' b → b < W'.heap.size) → Calls Try.prog 17 #[tv p.k p.n p.t cp cl cc, .slice bp bl bc] W' (RFillX A' (fillF p bs) W') := fun W' A A' h h' h3 => rFillX_any p bs cp bp cl cc bl bc A A' W' h h' hbc hbc2 h3
        have HFM := Lib.hid (fillF_small p bs)
        obtain ⟨⟨y, nn⟩, hy⟩ : ∃ r, fillF p bs = r := ⟨_, rfl⟩
        rw [hy] at hz hC3 hC4 HFM
        have C3 := Lib.hid hC3
        have C4 := Lib.hid hC4
        have HGW := Lib.hid hGW
        obtain ⟨⟨p0, p1, p2, p3⟩, _⟩ := hGW.cells
        have hvB : vB.length ≤ 1000000 := by have := HVB.out; have := HKM.out; omega
        clear hy hC3 hC4 hGW
        go_wp2_with fail
        refine hz.mono ?_
        clear hz p0 p1 p2 p3
        rintro e U1 ⟨up1, ul1, uc1, bsU, rfl, hOU, hNU, hsU, hk1⟩
        obtain ⟨V1, hV1⟩ : ∃ X, X = U1.alloc (.cells (four y.k y.n y.t up1 ul1 uc1) T) := ⟨_, rfl⟩
        have hkb1 : Keeps (fun _ => False) U1 V1 := by rw [hV1]; exact (Keeps.refl _ _).alloc _
        have hb1 : V1.heap[U1.heap.size]? = some (.cells (four y.k y.n y.t up1 ul1 uc1) T (0, 0)) := by rw [hV1]; exact heap_alloc_new _ _
        have hG1 := HGW.out.next (hk1.trans hkb1)
        have HV1 := Lib.hid hV1
        have HB1 := Lib.hid hb1
        have HOU := Lib.hid hOU
        have HNU := Lib.hid hNU
        have HK1 := Lib.hid (hk1.trans hkb1)
        have HKB1 := Lib.hid hkb1
        have HSV1 : Hid (U1.heap.size + 1 = V1.heap.size) := by show _ = _; rw [hV1]; simp
        clear hV1 hkb1 hb1 hOU hNU hk1
        go_upto_region 18 with fail
        rw [← HV1.out]
        have hz := C4.out V1 _ _ hG1.ap hG1.ab (fun b hb => by have := hG1.low; omega)
        obtain ⟨⟨p0, p1, p2, p3⟩, _⟩ := hG1.cells
        go_wp2_with fail
        refine hz.mono ?_
        clear hz p0 p1 p2 p3 HV1
        rintro e U2 ⟨fp1, fl1, fc1, rfl, hF2, hk2'⟩
        obtain ⟨V2, hV2⟩ : ∃ X, X = U2.alloc (.cells (four y.k y.n y.t fp1 fl1 fc1) T) := ⟨_, rfl⟩
        have hkb2 : Keeps (fun _ => False) U2 V2 := by rw [hV2]; exact (Keeps.refl _ _).alloc _
        have hb2 : V2.heap[U2.heap.size]? = some (.cells (four y.k y.n y.t fp1 fl1 fc1) T (0, 0)) := by rw [hV2]; exact heap_alloc_new _ _
        have hG2 := hG1.next (hk2'.trans hkb2)
        have HV2 := Lib.hid hV2
        have HB2 := Lib.hid hb2
        have HF2 := Lib.hid (hF2.next hkb2)
        have HK12 := Lib.hid (hk2'.trans hkb2)
        have HSU2 := Lib.hid hk2'.size
        have HG2 := Lib.hid hG2
        clear hV2 hkb2 hb2 hF2 hk2' hG1 hG2
        have HKWV := Lib.hid (HK1.out.trans HK12.out)
        have hend : Hid (∀ Y, Keeps (fun b => W.heap.size ≤ b) W Y → B3 (W3.heap.size + 1) W3.heap.size Y (.slice qp ql qc) vB cB ∧ Keeps (fun _ => False) w Y) := Lib.hid fun Y hkY => by
          have h1 := HPB.out
          exact ⟨HBK.out.keeps hkY (fun e => by omega) (fun b hb e => by have := (HBK.out.lists.lo e).2; omega), (HK4.out.trans' HKW.out (fun b hb hl => by omega)).trans' hkY (fun b hb hl => by omega)⟩
        go_upto_region 19 with fail
        rw [← HV2.out]
        clear HV2
        by_cases hn0 : nn = 0
        · subst hn0
          obtain ⟨V3, hV3⟩ : ∃ X, X = V2.alloc (.cells #[.slice none 0 0, .slice none 0 0, .int .i64 0, .slice none 0 0] T4) := ⟨_, rfl⟩
          have hk23 : Keeps (fun _ => False) V2 V3 := by rw [hV3]; exact (Keeps.refl _ _).alloc _
          have hb3 : V3.heap[V2.heap.size]? = some (.cells #[.slice none 0 0, .slice none 0 0, .int .i64 0, .slice none 0 0] T4 (0, 0)) := by rw [hV3]; exact heap_alloc_new _ _
          obtain ⟨V4, hV4⟩ : ∃ X, X = V3.alloc (.cells (four y.k y.n y.t up1 ul1 uc1) T) := ⟨_, rfl⟩
          have hk34 : Keeps (fun _ => False) V3 V4 := by rw [hV4]; exact (Keeps.refl _ _).alloc _
          have hb4 : V4.heap[V3.heap.size]? = some (.cells (four y.k y.n y.t up1 ul1 uc1) T (0, 0)) := by rw [hV4]; exact heap_alloc_new _ _
          have hkU4 : Keeps (fun _ => False) U1 V4 := ((HKB1.out.trans HK12.out).trans hk23).trans hk34
          have hO4 := HOU.out.keeps hkU4 (fun b hb => ⟨HNU.out.hi b hb, fun h => h⟩)
          have hbx4 := hk34.heap hb3
          have hB4 : B4 0 V2.heap.size V4 (.slice none 0 0) (.slice none 0 0) 0 (.slice none 0 0) [] [] [] :=
            ⟨hbx4, ⟨World.ownsRow_nil _ _ _ _, rfl, fun i v c hv => by simp at hv, fun i j v v' b hv => by simp at hv⟩, rfl, World.ownsRow_nil _ _ _ _, fun i n c hn => by simp at hn⟩
          have hrowT : V4.ownsRow 0 T 4 (.slice (some ⟨V3.heap.size, 0, none⟩) 1 1) 1 [.string y.k, .int .i64 y.n, .string y.t, .slice up1 ul1 uc1] := ⟨rfl, .inr ⟨_, 1, _, rfl, Nat.zero_le _, hb4, Nat.le_refl _, by unfold maxLen; omega, rfl, rfl⟩⟩
          have hrepT : RowRep V4 (.cons y.k y.n y.t y.c .nil) [.string y.k, .int .i64 y.n, .string y.t, .slice up1 ul1 uc1] bsU := by
            obtain ⟨ys, bs1, h1, h2, h3⟩ := hO4
            exact ⟨up1, ul1, uc1, ys, bs1, [], [], rfl, by rw [h3, List.append_nil], hsU, h1, h2, rfl, rfl⟩
          have hyn : y.c.nodes < 1024 := small_nodes HFM.out
          have hblen : bsU.length ≤ 2000 := by
            have := hrepT.blen
            simp only [Fo.nodes] at this
            omega
          have hU1V2 : U1.heap.size ≤ V2.heap.size := by have := HKB1.out.size; have := HK12.out.size; omega
          have hbsU : ∀ b ∈ bsU, W.heap.size ≤ b ∧ b < V2.heap.size := fun b hb => ⟨HNU.out.lo b hb, by have := HNU.out.hi b hb; omega⟩
          have hblk0 : ∀ b, B4.Blk V2.heap.size (.slice none 0 0) (.slice none 0 0) [] b → b = V2.heap.size := fun b hb => by
            rcases hb with hb | (hb | ⟨v, hv, hb⟩) | hb
            · exact hb
            · simp [Value.ownBlock] at hb
            · simp at hv
            · simp [Value.ownBlock] at hb
          have hz := take4_any 0 V2.heap.size (.slice none 0 0) (.slice none 0 0) (.slice none 0 0) 0 [] [] [] (.cons y.k y.n y.t y.c .nil) (some ⟨V3.heap.size, 0, none⟩) 1 1 [.string y.k, .int .i64 y.n, .string y.t, .slice up1 ul1 uc1] bsU V4 hB4 (Nat.zero_le _) hrowT rfl hrepT HNU.out.nodup (fun b hb => ⟨Nat.zero_le _, fun e => by have := hblk0 b e; have := (hbsU b hb).2; omega⟩) (by simp only [Fo.nodes]; omega) (by simp; omega) (by omega) (by omega) (by simp)
          have hb13 := (HK12.out.trans hk23).heap HB1.out
          have HV3 := Lib.hid hV3
          have HV4 := Lib.hid hV4
          have HK24 := Lib.hid (hk23.trans hk34)
          have HBU := Lib.hid hbsU
          have HBL0 := Lib.hid hblk0
          have HBLN := Lib.hid hblen
          clear hV3 hV4 hk23 hk34 hb3 hb4 hkU4 hO4 hbx4 hB4 hrowT hrepT hbsU hblk0 hblen
          go_upto_region 21 with fail
          rw [← HV3.out]
          obtain ⟨q0, q1, q2, q3, _⟩ := box4 hb13
          rw [HV4.out] at hz
          clear HV3
          go_wp2_with fail
          refine hz.mono ?_
          clear hz q0 q1 q2 q3 hb13
          rw [← HV4.out]
          rintro e Y1 ⟨⟨u, rfl⟩, lv', nv', sz', vs', cs', ns', hBk4, hz0, hz1, hvl, hsm4, hkT, hfr⟩
          have hS4 : ∀ b, (B4.Blk V2.heap.size (.slice none 0 0) (.slice none 0 0) [] b ∨ b ∈ bsU) → W.heap.size ≤ b := fun b hb => by
            have h1 := HKWV.out.size
            rcases hb with hb | hb
            · have := HBL0.out b hb; omega
            · exact (HBU.out b hb).1
          have hGY1 := (HG2.out.next HK24.out).keeps hkT (fun b hb => by have := hS4 b hb; have := HPB.out; omega)
          have hz := C3.out Y1 _ _ hGY1.ap hGY1.ab
          have HBK4 := Lib.hid hBk4
          have HKT := Lib.hid hkT
          have HFR := Lib.hid hfr
          have HSM4 := Lib.hid hsm4
          have HVL := Lib.hid hvl
          have HZ0 := Lib.hid hz0
          have HZ1 := Lib.hid hz1
          have HS4' := Lib.hid hS4
          obtain ⟨⟨p0, p1, p2, p3⟩, _⟩ := hGY1.cells
          clear hBk4 hz0 hz1 hvl hsm4 hkT hfr hGY1 hS4 HV4
          go_wp2_with fail
          refine hz.mono ?_
          clear hz p0 p1 p2 p3
          rintro e U5 ⟨yp1, yl1, yc1, bsY, rfl, hOY, hNY, hsY, hk5⟩
          obtain ⟨V5, hV5⟩ : ∃ X, X = U5.alloc (.cells (four y.k y.n y.t yp1 yl1 yc1) T) := ⟨_, rfl⟩
          have hkb5 : Keeps (fun _ => False) U5 V5 := by rw [hV5]; exact (Keeps.refl _ _).alloc _
          have hb5 : V5.heap[U5.heap.size]? = some (.cells (four y.k y.n y.t yp1 yl1 yc1) T (0, 0)) := by rw [hV5]; exact heap_alloc_new _ _
          have hk15 : Keeps (fun _ => False) Y1 V5 := hk5.trans hkb5
          have hY5 : Tv V5 (fun b => Y1.heap.size ≤ b ∧ b < V5.heap.size) y.k y.t y.c yp1 yl1 yc1 := ((hOY.tv hsY).next hkb5).mono (fun b hb => ⟨hNY.lo b hb, by have := hNY.hi b hb; have := hkb5.size; omega⟩)
          have hsU5 : Y1.heap.size ≤ U5.heap.size := hk5.size
          have HV5 := Lib.hid hV5
          have HB5 := Lib.hid hb5
          have HY5 := Lib.hid hY5
          have HK15 := Lib.hid hk15
          clear hV5 hkb5 hb5 hk15 hY5 hOY hNY hk5 hsY
          go_upto_region 23 with fail
          rw [← HV5.out]
          clear HV5
          have hz := whole4_any 0 V2.heap.size lv' nv' sz' vs' cs' ns' .nil none 0 0 [] [] V5 (HBK4.out.next HK15.out) (Nat.zero_le _) (World.ownsRow_nil _ _ _ _) rfl ⟨rfl, rfl⟩ List.nodup_nil (by simp) (by simp [Fo.nodes]) (by have := HVL.out; have := HBLN.out; simp at this ⊢; simp at *; omega) HZ0.out (by have := HZ1.out; have := HBLN.out; omega) HSM4.out
          go_wp2_with fail
          refine hz.mono ?_
          clear hz
          rintro e Y2 ⟨rfl, hkW2⟩
          have hblk2 : ∀ b, (B4.Blk V2.heap.size lv' nv' vs' b ∨ b ∈ ([] : List Nat)) → (b = V2.heap.size ∨ b ∈ bsU ∨ V4.heap.size ≤ b) ∧ b < Y1.heap.size := fun b hb => by
            rcases hb with hb | hb
            · refine ⟨?_, HBK4.out.lt hb⟩
              rcases HFR.out b hb with h1 | h1 | h1
              · exact .inl (HBL0.out b h1)
              · exact .inr (.inl h1)
              · exact .inr (.inr h1)
            · simp at hb
          have s1 := HKWV.out.size
          have s2 := HK24.out.size
          have s3 := HKT.out.size
          have s4 := HK15.out.size
          have s5 := HSU2.out
          have s6 := HK12.out.size
          have s7 := HK1.out.size
          have hl2 := heap_lt HB2.out
          have hfull4 := HF2.out.next HK24.out
          have hfullY1 := hfull4.keeps HKT.out (fun b hb e => by
            have hbU : b ∈ bsU → W.heap.size ≤ b ∧ b < U1.heap.size := fun h => ⟨HNU.out.lo b h, HNU.out.hi b h⟩
            have h9 := HPB.out
            have h8 := HKB1.out.size
            have h7 : U1.heap.size + 1 = V1.heap.size := HSV1.out
            rcases e with e | e
            · have := HBL0.out b e; omega
            · have := hbU e; omega)
          have hfull5 := hfullY1.next HK15.out
          have hfullY2 := hfull5.keeps hkW2 (fun b hb e => by
            have hbU : b ∈ bsU → W.heap.size ≤ b ∧ b < U1.heap.size := fun h => ⟨HNU.out.lo b h, HNU.out.hi b h⟩
            have h9 := HPB.out
            have h7 : U1.heap.size + 1 = V1.heap.size := HSV1.out
            obtain ⟨e1, e2⟩ := hblk2 b e
            rcases e1 with e1 | e1 | e1
            · omega
            · have := hbU e1; omega
            · omega)
          have hYY2 := HY5.out.keeps hkW2 (fun b hb e => by have := (hblk2 b e).2; omega)
          have hb2Y1 := (HKT.out.block U2.heap.size (by omega) (fun e => by
            rcases e with e | e
            · have := HBL0.out _ e; omega
            · have := HNU.out.hi _ e; have := HKB1.out.size; omega)).trans (HK24.out.heap HB2.out)
          have hb2Y2 := (hkW2.block U2.heap.size (by omega) (fun e => by
            obtain ⟨e1, e2⟩ := hblk2 _ e
            rcases e1 with e1 | e1 | e1
            · omega
            · have := HNU.out.hi _ e1; have := HKB1.out.size; omega
            · omega)).trans (HK15.out.heap hb2Y1)
          have hb5Y2 := (hkW2.block U5.heap.size (heap_lt HB5.out) (fun e => by have := (hblk2 _ e).2; omega)).trans HB5.out
          have hall : Keeps (fun b => W.heap.size ≤ b) W Y2 := ((((HKWV.out.trans HK24.out).mono (S' := fun b => W.heap.size ≤ b) (fun _ h _ => h.elim)).trans (HKT.out.mono (fun b hb _ => HS4'.out b hb))).trans' HK15.out (fun _ h => h.elim)).trans (hkW2.mono (fun b hb _ => by
            rcases (hblk2 b hb).1 with e1 | e1 | e1
            · omega
            · exact (HBU.out b e1).1
            · omega))
          have hz := Eq_any (y.c.nodes + 1) y.k y.k y.n y.n y.t y.t y.c y.c _ _ yp1 fp1 yl1 yc1 fl1 fc1 Y2 (by omega) hYY2 hfullY2
          rw [eqB_self] at hz
          obtain ⟨q0, q1, q2, q3, _⟩ := box4 hb5Y2
          obtain ⟨r0, r1, r2, r3, _⟩ := box4 hb2Y2
          have HALL := Lib.hid hall
          clear hall hblk2 s1 s2 s3 s4 s5 s6 s7 hl2 hfull4 hfullY1 hfull5 hfullY2 hYY2 hb2Y1 hb2Y2 hb5Y2 hkW2
          go_wp2_with fail
          refine hz.mono ?_
          clear hz q0 q1 q2 q3 r0 r1 r2 r3
          rintro e Y3 ⟨rfl, hkY3⟩
          obtain ⟨hb9, hkf⟩ := hend.out Y3 (HALL.out.trans' hkY3 (fun _ h => h.elim))
          have hz := held3_any (W3.heap.size + 1) W3.heap.size qp ql qc vB cB Y3 hb9 hvB HSM.out
          have HKF := Lib.hid hkf
          clear hb9 hkf hkY3
          go_wp2_with fail
          refine hz.mono ?_
          clear hz
          rintro e Y ⟨rfl, hkY⟩
          have HKY := Lib.hid (HKF.out.trans hkY)
          clear hkY
          go_wp2_with fail
          go_ret
          exact ⟨rfl, HKY.out⟩
        · have hne1 : (nn == 0) = false := by simpa using hn0
          have hne2 : decide (nn = 0) = false := by simpa using hn0
          obtain ⟨hb3, hkf⟩ := hend.out V2 (HKWV.out.mono (fun _ h _ => h.elim))
          have hz := held3_any (W3.heap.size + 1) W3.heap.size qp ql qc vB cB V2 hb3 hvB HSM.out
          have HKF := Lib.hid hkf
          clear hb3 hkf
          go_wp2_with fail
          refine hz.mono ?_
          clear hz
          rintro e Y ⟨rfl, hkY⟩
          have HKY := Lib.hid (HKF.out.trans hkY)
          clear hkY
          go_wp2_with fail
          go_ret
          exact ⟨rfl, HKY.out⟩
end Go.Proofs.Ytccoihmibkpedaa
