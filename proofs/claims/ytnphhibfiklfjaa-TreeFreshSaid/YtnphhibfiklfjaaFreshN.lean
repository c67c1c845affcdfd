/-
  espalierlaw4.TreeFresh: what a round holds; the books' steps as the walk takes them.
-/
import Derived.Test.YtnphhibfiklfjaaFreshP

import Derived.Test.YtnphhibfiklfjaaOpAt

import Derived.Test.YtnphhibfiklfjaaTwoC

set_option linter.unusedVariables false

set_option linter.unusedSimpArgs false

namespace Go.Proofs.Ytnphhibfiklfjaa

open Go.RowKit

theorem Fo.kinds_le (f : Fo) : f.kinds.length = f.nodes := by
  induction f with
  | nil => rfl
  | cons k n t c r ihc ihr => simp only [Fo.kinds, Fo.nodes, List.length_cons, List.length_append, ihc, ihr]; omega
theorem kindsF_le (x : Nd) : (kindsF x).length ≤ 100000 := by
  unfold kindsF
  split
  · rename_i h
    have h1 := uniq_le (x.k :: x.c.kinds)
    have h2 := h.1
    rw [List.length_cons, Fo.kinds_le] at h1
    simp only [Nd.nodes] at h2
    omega
  · simp
/-- What the books may hold within a round: what was theirs, and all that is made from D0 on. -/
abbrev CP (pb ob D0 : Nat) (Ds : List Nat) (X : Nat) (b : Nat) : Prop := ((pb ≤ b ∧ b ≠ pb + 1 ∧ b < ob ∧ b ∉ Ds) ∨ D0 ≤ b) ∧ b ≠ X
/-- The books, their blocks among C. -/
def BKI (C : Nat → Prop) (pb n m q : Nat) (W : World) : Prop := ∃ P, FB pb (pb + 1 + 1) n m q P W ∧ ∀ b, P b → C b
section

variable {C : Nat → Prop} {pb n m q : Nat} {W W0 W1 : World}

theorem BKI.keeps {S : Nat → Prop} (h : BKI C pb n m q W) (hk : Keeps S W W1) (hS : ∀ b, S b → ¬ C b) : BKI C pb n m q W1 := by
  obtain ⟨P, h, hC⟩ := h
  exact ⟨P, h.keeps hk (fun b hb hp => hS b hb (hC b hp)), hC⟩
theorem BKI.next (h : BKI C pb n m q W) (hk : Keeps (fun _ => False) W W1) : BKI C pb n m q W1 := h.keeps hk (fun _ h => h.elim)
theorem BKI.mono {C' : Nat → Prop} {n' : Nat} (h : BKI C pb n m q W) (hC : ∀ b, C b → b < W.heap.size → C' b) (hn : n ≤ n') : BKI C' pb n' m q W := by
  obtain ⟨P, h, hP⟩ := h
  exact ⟨P, h.mono (fun b hb => hb) (fun b hb => h.in_ hb) hn, fun b hb => hC b (hP b hb) (h.in_ hb).2.2⟩
theorem three_nodup {b1 b2 b3 : List Nat} {D2 D3 : Nat} (h1 : b1.Nodup) (h2 : b2.Nodup) (h3 : b3.Nodup) (l1 : ∀ b ∈ b1, b < D2) (l2 : ∀ b ∈ b2, D2 ≤ b ∧ b < D3) (l3 : ∀ b ∈ b3, D3 ≤ b) (h23 : D2 ≤ D3) : (b1 ++ b2 ++ b3).Nodup := by
  refine List.nodup_append.2 ⟨List.nodup_append.2 ⟨h1, h2, fun a ha b hb e => ?_⟩, h3, fun a ha b hb e => ?_⟩
  · have := l1 a ha; have := l2 b hb; omega
  · have := l3 b hb
    rcases List.mem_append.1 ha with ha | ha
    · have := l1 a ha; omega
    · have := l2 a ha; omega
theorem RowRep.cons_own {w : World} {k : ByteArray} {n : Int} {t : ByteArray} {c r : Fo} {cp : Option Addr} {cl cc : Nat} {b1 b2 : List Nat} {xs : List Value} (hs : szok k t) (ho : Own w c cp cl cc b1) (hr : RowRep w r xs b2) : RowRep w (.cons k n t c r) (.string k :: .int .i64 n :: .string t :: .slice cp cl cc :: xs) (b1 ++ b2) := by
  obtain ⟨ys, bs1, h1, h2, rfl⟩ := ho
  exact ⟨cp, cl, cc, ys, bs1, xs, b2, rfl, rfl, hs, h1, h2, hr⟩
/-- Three trees are kept. -/
theorem BKI.keepT (h : BKI C pb n m q W0) (hk : Keeps (fun _ => False) W0 W) (hC : ∀ b, W0.heap.size ≤ b → C b) (hm : m ≤ 1000) {vb : Nat} {x y z : Nd} {xp yp zp : Option Addr} {xl xc yl yc zl zc : Nat} {b1 b2 b3 : List Nat}
    (hv : W.heap[vb]? = some (.cells (c12 x y z xp xl xc yp yl yc zp zl zc) T (0, 0))) {D D2 D3 : Nat} (hx : Tr W D x xp xl xc b1) (hy : Tr W D2 y yp yl yc b2) (hz : Tr W D3 z zp zl zc b3) (h0 : W0.heap.size ≤ D) (h12 : D ≤ D2) (h23 : D2 ≤ D3) (l1 : ∀ b ∈ b1, b < D2) (l2 : ∀ b ∈ b2, b < D3) :
    Calls Try.prog 27 #[.pointer (some ⟨pb, 0, none⟩), .slice (some ⟨vb, 0, none⟩) 3 3] W fun e W' => (∃ u, e = .returned u) ∧ BKI C pb n (m + 1) q W' ∧ Keeps C W W' := by
  obtain ⟨P, hF, hP⟩ := h
  refine ((hF.next hk).keepT hm hv (D := W0.heap.size) (hx.lower h0) (hy.lower (by omega)) (hz.lower (by omega)) hF.big (fun b hb => (hF.in_ hb).2.2) (three_nodup hx.nd hy.nd hz.nd l1 (fun b hb => ⟨hy.lo b hb, l2 b hb⟩) hz.lo h23)).mono ?_
  rintro e W' ⟨he, h1, h2⟩
  refine ⟨he, ⟨_, h1, fun b hb => ?_⟩, h2.mono fun b hb _ => hP b hb⟩
  rcases hb with hb | hb | hb
  · exact hP b hb
  · refine hC b ?_
    rcases List.mem_append.1 hb with hb | hb
    · rcases List.mem_append.1 hb with hb | hb
      · have := hx.lo b hb; omega
      · have := hy.lo b hb; omega
    · have := hz.lo b hb; omega
  · exact hC b (by have := hk.size; omega)
/-- A list of names is kept. -/
theorem BKI.keepN (h : BKI C pb n m q W0) (hk : Keeps (fun _ => False) W0 W) (hC : ∀ b, W0.heap.size ≤ b → C b) (hq : q ≤ 1000) {vb : Nat} {vp : Option Addr} {vl vc : Nat} {ys : List Value} (hv : W.heap[vb]? = some (.cells #[.slice vp vl vc] TSn (0, 0))) (hr : W.ownsRow W0.heap.size TSt 1 (.slice vp vl vc) vl ys) (hvb : W0.heap.size ≤ vb) (hvl : vl ≤ 100000) :
    Calls Try.prog 28 #[.pointer (some ⟨pb + 1 + 1, 0, none⟩), .slice (some ⟨vb, 0, none⟩) 1 1] W fun e W' => (∃ u, e = .returned u) ∧ BKI C pb n m (q + 1) W' ∧ Keeps C W W' := by
  obtain ⟨P, hF, hP⟩ := h
  refine ((hF.next hk).keepN hq hv hr hF.big (fun b hb => (hF.in_ hb).2.2) (fun e => by have := (hF.in_ e).2.2; omega) hvl).mono ?_
  rintro e W' ⟨he, h1, h2⟩
  refine ⟨he, ⟨_, h1, fun b hb => ?_⟩, h2.mono fun b hb _ => hP b hb⟩
  rcases hb with hb | hb | hb
  · exact hP b hb
  · exact hC b (hr.lt b hb).1
  · exact hC b (by have := hk.size; omega)
/-- Three trees are taken. -/
theorem BKI.take3 (h : BKI C pb n m q W0) (hk : Keeps (fun _ => False) W0 W) (hC : ∀ b, W0.heap.size ≤ b → C b) (hn : n ≤ 3900000) {vb : Nat} {x y z : Nd} {xp yp zp : Option Addr} {xl xc yl yc zl zc : Nat} {b1 b2 b3 : List Nat}
    (hv : W.heap[vb]? = some (.cells (c12 x y z xp xl xc yp yl yc zp zl zc) T (0, 0))) {D D2 D3 : Nat} (hx : Tr W D x xp xl xc b1) (hy : Tr W D2 y yp yl yc b2) (hz : Tr W D3 z zp zl zc b3) (h0 : W0.heap.size ≤ D) (h12 : D ≤ D2) (h23 : D2 ≤ D3) (l1 : ∀ b ∈ b1, b < D2) (l2 : ∀ b ∈ b2, b < D3) :
    Calls Try.prog 29 #[.pointer (some ⟨pb, 0, none⟩), .slice (some ⟨vb, 0, none⟩) 3 3] W fun e W' => (∃ u, e = .returned u) ∧ BKI C pb (n + 3072) m q W' ∧ Keeps C W W' := by
  obtain ⟨P, hF, hP⟩ := h
  have hlo : ∀ b ∈ b1 ++ (b2 ++ (b3 ++ [])), W0.heap.size ≤ b := fun b hb => by
    simp only [List.append_nil, List.mem_append] at hb
    rcases hb with hb | hb | hb
    · have := hx.lo b hb; omega
    · have := hy.lo b hb; omega
    · have := hz.lo b hb; omega
  have hrep := RowRep.cons_own (k := x.k) (n := x.n) hx.sz hx.own (RowRep.cons_own (k := y.k) (n := y.n) hy.sz hy.own (RowRep.cons_own (k := z.k) (n := z.n) hz.sz hz.own (RowRep.nil W)))
  refine ((hF.next hk).take hn (f' := .cons x.k x.n x.t x.c (.cons y.k y.n y.t y.c (.cons z.k z.n z.t z.c .nil))) (tl := 3) (row_new (n := 3) hv (by simp) (by omega)) rfl hrep (by have := three_nodup hx.nd hy.nd hz.nd l1 (fun b hb => ⟨hy.lo b hb, l2 b hb⟩) hz.lo h23; simpa using this) (fun b hb => ⟨by have := hlo b hb; have := hF.big; omega, fun e => by have := hlo b hb; have := (hF.in_ e).2.2; omega⟩) (by have := hx.lite; have := hy.lite; have := hz.lite; simp only [Fo.nodes]; omega)).mono ?_
  rintro e W' ⟨he, h1, h2⟩
  refine ⟨he, ⟨_, h1, fun b hb => ?_⟩, h2.mono fun b hb _ => hb.elim (hP b) (fun e => hC b (hlo b e))⟩
  rcases hb with hb | hb | hb
  · exact hP b hb
  · exact hC b (hlo b hb)
  · exact hC b (by have := hk.size; omega)
/-- One tree is taken. -/
theorem BKI.take1 (h : BKI C pb n m q W) (hn : n ≤ 3900000) {vb : Nat} {y : Nd} {p : Option Addr} {l c : Nat} {bs : List Nat} (ho : Own W y.c p l c bs) (hsz : szok y.k y.t) (hnd : bs.Nodup) (hb : ∀ b ∈ bs, pb + 3 ≤ b ∧ ¬ C b) (hl : y.c.nodes ≤ 3071)
    (hv : W.heap[vb]? = some (.cells (four y.k y.n y.t p l c) T (0, 0))) :
    Calls Try.prog 29 #[.pointer (some ⟨pb, 0, none⟩), .slice (some ⟨vb, 0, none⟩) 1 1] W fun e W' => (∃ u, e = .returned u) ∧ BKI (fun b => C b ∨ b ∈ bs ∨ (W.heap.size ≤ b ∧ b < W'.heap.size)) pb (n + 3072) m q W' ∧ Keeps (fun b => C b ∨ b ∈ bs) W W' := by
  obtain ⟨P, hF, hP⟩ := h
  have hrep := RowRep.cons_own (k := y.k) (n := y.n) hsz ho (RowRep.nil W)
  rw [List.append_nil] at hrep
  refine (hF.take hn (f' := .cons y.k y.n y.t y.c .nil) (tl := 1) (row_new (n := 1) hv (by simp) (by omega)) rfl hrep hnd (fun b hb' => ⟨(hb b hb').1, fun e => (hb b hb').2 (hP b e)⟩) (by simp only [Fo.nodes]; omega)).mono ?_
  rintro e W' ⟨he, h1, h2⟩
  exact ⟨he, ⟨_, h1, fun b hb => hb.imp_left (hP b)⟩, h2.mono fun b hb _ => hb.imp_left (hP b)⟩
end

/-- What a round holds: the operation's box, the copies' boxes, the copies, what was handed in, the book's cell, the marks. -/
structure RS (pb ob tb ub D0 : Nat) (Ds : List Nat) (kd : Int) (x u : Nd) (path : List Int) (cp up : Option Addr) (cl cc ul uc : Nat) (pp : Option Addr) (pl pc : Nat) (st : Int) (tp vp : Option Addr) (tl tc vl vc : Nat) (At Au : Nat → Prop) (W : World) : Prop where
  op : W.heap[ob]? = some (.cells (opc kd x u cp up cl cc ul uc pp pl pc st) OT (0, 0))
  bt : W.heap[tb]? = some (.cells (four x.k x.n x.t tp tl tc) T (0, 0))
  bu : W.heap[ub]? = some (.cells (four u.k u.n u.t vp vl vc) T (0, 0))
  tt : TM W At x tp tl tc
  tu : TM W Au u vp vl vc
  ox : Tv W (fun b => b < pb) x.k x.t x.c cp cl cc
  ou : Tv W (fun b => b < pb) u.k u.t u.c up ul uc
  oq : Ints W (fun b => b < pb) path pp pl
  cb : W.heap[pb + 1]? = some (.cells #[.pointer (some ⟨pb, 0, none⟩)] 60 (0, 0))
  mks : ∀ D ∈ Ds, W.heap[D]? = some (.deferred (some []))
  dl : ∀ D ∈ Ds, pb + 3 ≤ D ∧ D < ob
  la : ∀ b, At b → ob < b ∧ b < D0 ∧ b ≠ tb ∧ b ≠ ub
  lb : ∀ b, Au b → ob < b ∧ b < D0 ∧ b ≠ tb ∧ b ≠ ub
  l1 : pb + 3 ≤ ob
  l2 : ob < tb ∧ tb < D0
  l3 : ob < ub ∧ ub < D0
  l4 : D0 ≤ W.heap.size
section

variable {pb ob tb ub D0 : Nat} {Ds : List Nat} {kd : Int} {x u : Nd} {path : List Int} {cp up : Option Addr} {cl cc ul uc : Nat} {pp : Option Addr} {pl pc : Nat} {st : Int} {tp vp : Option Addr} {tl tc vl vc : Nat} {At Au : Nat → Prop} {W W1 : World} {X : Nat}

theorem RS.keeps {S : Nat → Prop} (h : RS pb ob tb ub D0 Ds kd x u path cp up cl cc ul uc pp pl pc st tp vp tl tc vl vc At Au W) (hk : Keeps S W W1) (hS : ∀ b, S b → (pb ≤ b ∧ b ≠ pb + 1 ∧ b < ob ∧ b ∉ Ds) ∨ D0 ≤ b) : RS pb ob tb ub D0 Ds kd x u path cp up cl cc ul uc pp pl pc st tp vp tl tc vl vc At Au W1 := by
  have hb : ∀ b o, W.heap[b]? = some o → ob ≤ b → b < D0 → W1.heap[b]? = some o := fun b o hh h1 h2 => (hk.block _ (heap_lt hh) (fun e => by have := hS b e; omega)).trans hh
  have l1 := h.l1
  have l2 := h.l2
  have l3 := h.l3
  refine ⟨hb _ _ h.op (Nat.le_refl _) (by omega), hb _ _ h.bt (by omega) l2.2, hb _ _ h.bu (by omega) l3.2, h.tt.keeps hk (fun b hb e => by have := h.la b hb; have := hS b e; omega), h.tu.keeps hk (fun b hb e => by have := h.lb b hb; have := hS b e; omega),
    h.ox.keeps hk (fun b hb e => by have := hS b e; omega), h.ou.keeps hk (fun b hb e => by have := hS b e; omega), h.oq.keeps hk (fun b hb e => by have := hS b e; omega), (hk.block _ (heap_lt h.cb) (fun e => by have := hS _ e; omega)).trans h.cb,
    fun D hD => (hk.block _ (heap_lt (h.mks D hD)) (fun e => by
      have h1 := h.dl D hD
      rcases hS _ e with h2 | h2
      · exact h2.2.2.2 hD
      · omega)).trans (h.mks D hD), h.dl, h.la, h.lb, h.l1, h.l2, h.l3, Nat.le_trans h.l4 hk.size⟩
theorem RS.next (h : RS pb ob tb ub D0 Ds kd x u path cp up cl cc ul uc pp pl pc st tp vp tl tc vl vc At Au W) (hk : Keeps (fun _ => False) W W1) : RS pb ob tb ub D0 Ds kd x u path cp up cl cc ul uc pp pl pc st tp vp tl tc vl vc At Au W1 := h.keeps hk (fun _ h => h.elim)
theorem RS.byC (h : RS pb ob tb ub D0 Ds kd x u path cp up cl cc ul uc pp pl pc st tp vp tl tc vl vc At Au W) (hk : Keeps (CP pb ob D0 Ds X) W W1) : RS pb ob tb ub D0 Ds kd x u path cp up cl cc ul uc pp pl pc st tp vp tl tc vl vc At Au W1 := h.keeps hk (fun _ h => h.1)
end

/-- Between the rounds. -/
structure FI (W0 : World) (pb r : Nat) (Ds : List Nat) (W : World) : Prop where
  bk : BKI (fun b => pb ≤ b ∧ b ≠ pb + 1 ∧ b ∉ Ds) pb (r * 125952) (2 * r) (2 * r) W
  keeps : Keeps (fun b => pb ≤ b ∧ b ≠ pb + 1) W0 W
  nd : Ds.Nodup
  mks : ∀ D ∈ Ds, pb + 3 ≤ D ∧ W.heap[D]? = some (.deferred (some []))
theorem BKI.more {C C' : Nat → Prop} {pb n m q n' m' q' : Nat} {W : World} (h : BKI C pb n m q W) (hC : ∀ b, C b → b < W.heap.size → C' b) (hn : n ≤ n') (hm : m ≤ m') (hq : q ≤ q') : BKI C' pb n' m' q' W := by
  obtain ⟨P, h, hP⟩ := h
  refine ⟨P, ?_, fun b hb => hC b (hP b hb) (h.in_ hb).2.2⟩
  obtain ⟨lv, nv, sz, kp, kl, kc, xs, f, bs, vs, cs, ns, lv2, sz2, vs2, cs2, h⟩ := h
  have := h.c3
  have := h.kll
  have := h.d3
  exact ⟨lv, nv, sz, kp, kl, kc, xs, f, bs, vs, cs, ns, lv2, sz2, vs2, cs2, h.bk, h.kr, h.kf, h.kt, h.kn, Nat.le_trans h.kd (Nat.mul_le_mul_right _ hm), by omega, h.nm, Nat.le_trans h.c1 hn, h.c2, by omega, h.c4, Nat.le_trans h.d1 hq, h.d2, by omega, h.d4, h.a1, h.a2, h.a3, h.p1, h.p2, h.big⟩
theorem FI.next {W0 W W1 : World} {pb r : Nat} {Ds : List Nat} (h : FI W0 pb r Ds W) (hk : Keeps (fun _ => False) W W1) : FI W0 pb (r + 1) Ds W1 :=
  ⟨(h.bk.next hk).more (fun b hb _ => hb) (Nat.mul_le_mul_right _ (Nat.le_succ r)) (by omega) (by omega), h.keeps.trans' hk (fun _ h => h.elim), h.nd, fun D hD => ⟨(h.mks D hD).1, hk.heap (h.mks D hD).2⟩⟩
/-- The books are whole. -/
theorem FI.whole {W0 W : World} {pb r : Nat} {Ds : List Nat} (h : FI W0 pb r Ds W) (hr : r ≤ 20) :
    Calls Try.prog 30 #[.pointer (some ⟨pb, 0, none⟩)] W fun e W' => e = .returned (.bool true) ∧ Keeps (fun b => pb ≤ b ∧ b ≠ pb + 1 ∧ b ∉ Ds) W W' ∧
      Calls Try.prog 31 #[.pointer (some ⟨pb + 1 + 1, 0, none⟩)] W' fun e W'' => e = .returned (.bool true) ∧ Keeps (fun b => pb ≤ b ∧ b ≠ pb + 1 ∧ b ∉ Ds) W' W'' := by
  obtain ⟨P, hF, hP⟩ := h.bk
  have h1 : r * 125952 ≤ 3000000 := Nat.le_trans (Nat.mul_le_mul_right _ hr) (by decide)
  have h2 : 2 * r ≤ 60 := by omega
  refine (hF.whole h1 h2 (by omega)).mono ?_
  rintro e W' ⟨he, hk, hA⟩
  exact ⟨he, hk.mono fun b hb _ => hP b hb, hA.mono fun e W'' ⟨h1, h2⟩ => ⟨h1, h2.mono fun b hb _ => hP b hb⟩⟩
end Go.Proofs.Ytnphhibfiklfjaa
