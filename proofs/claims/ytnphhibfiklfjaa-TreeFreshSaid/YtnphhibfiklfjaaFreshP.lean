/-
  espalierlaw4.TreeFresh: what its rounds keep of the books.
-/
import Derived.Test.YtnphhibfiklfjaaWhole4

import Derived.Test.YtnphhibfiklfjaaApart

import Derived.Test.YtnphhibfiklfjaaEachN

import Derived.Test.YtnphhibfiklfjaaTwinX

import Derived.Test.YtnphhibfiklfjaaKinds2

set_option linter.unusedVariables false

set_option linter.unusedSimpArgs false

namespace Go.Proofs.Ytnphhibfiklfjaa

open Go.RowKit

theorem RowRep.blen4 {w : World} : ∀ {f : Fo} {xs : List Value} {bs : List Nat}, RowRep w f xs bs → bs.length ≤ f.nodes
  | .nil, _, _, ⟨_, rfl⟩ => by simp
  | .cons k n t c r, _, _, ⟨cp, cl, cc, ys, bs1, xs', bs2, _, rfl, _, _, h1, h2⟩ => by
    have e1 := RowRep.blen4 h1
    have e2 := RowRep.blen4 h2
    have e3 : (sb cp cl cc).length ≤ 1 := by unfold sb; cases (Value.slice cp cl cc).ownBlock <;> simp
    simp only [List.length_append, Fo.nodes]
    omega
theorem Fo.nodes_snoc (f : Fo) (k n t c) : (f.snoc k n t c).nodes = f.nodes + c.nodes + 1 := by
  induction f with
  | nil => simp only [Fo.snoc, Fo.nodes]; omega
  | cons k' n' t' c' r _ ih => simp only [Fo.snoc, Fo.nodes, ih]; omega
/-- What is small stays so. -/
theorem copyF_lite (x : Nd) : (copyF x).1.c.nodes ≤ 1023 := by
  unfold copyF
  split
  · rename_i h; have := h.1; simp only [Nd.nodes] at this; show x.c.nodes ≤ 1023; omega
  · show Fo.nodes .nil ≤ 1023; simp [Fo.nodes]
theorem atF_lite (x : Nd) (p : List Int) : (atF x p).1.c.nodes ≤ 1023 := by
  unfold atF
  split
  · rename_i h
    cases hs : sub p x with
    | none => show Fo.nodes .nil ≤ 1023; simp [Fo.nodes]
    | some y =>
      have h1 := sub_nodes p x y hs
      have h2 := h.1
      simp only [Nd.nodes] at h2
      show y.c.nodes ≤ 1023
      omega
  · show Fo.nodes .nil ≤ 1023; simp [Fo.nodes]
theorem putF_lite (x : Nd) (p : List Int) (u : Nd) : (putF x p u).1.c.nodes ≤ 1023 := by
  have hz : (zeroNd).c.nodes ≤ 1023 := by show Fo.nodes .nil ≤ 1023; simp [Fo.nodes]
  unfold putF
  split
  · split
    · split
      · rename_i h; have := h.1; simp only [Nd.nodes] at this; show (put p x u).c.nodes ≤ 1023; omega
      · exact hz
    · exact hz
  · exact hz
/-- A tree in memory of its own: its blocks differ, they lie in new memory. -/
structure Tr (W : World) (D : Nat) (y : Nd) (p : Option Addr) (l c : Nat) (bs : List Nat) : Prop where
  own : Own W y.c p l c bs
  sz : szok y.k y.t
  nd : bs.Nodup
  lo : ∀ b ∈ bs, D ≤ b
  lite : y.c.nodes ≤ 1023
theorem Tr.hi {W : World} {D : Nat} {y : Nd} {p : Option Addr} {l c : Nat} {bs : List Nat} (h : Tr W D y p l c bs) : ∀ b ∈ bs, b < W.heap.size := fun b hb => by
  obtain ⟨cur, hh⟩ := h.own.shape b hb
  exact heap_lt hh
theorem Tr.keeps {W W1 : World} {D : Nat} {y : Nd} {p : Option Addr} {l c : Nat} {bs : List Nat} {S : Nat → Prop} (h : Tr W D y p l c bs) (hk : Keeps S W W1) (hS : ∀ b ∈ bs, ¬ S b) : Tr W1 D y p l c bs :=
  ⟨h.own.keeps hk (fun b hb => ⟨h.hi b hb, hS b hb⟩), h.sz, h.nd, h.lo, h.lite⟩
theorem Tr.next {W W1 : World} {D : Nat} {y : Nd} {p : Option Addr} {l c : Nat} {bs : List Nat} (h : Tr W D y p l c bs) (hk : Keeps (fun _ => False) W W1) : Tr W1 D y p l c bs := h.keeps hk (fun _ _ h => h)
theorem Tr.lower {W : World} {D D' : Nat} {y : Nd} {p : Option Addr} {l c : Nat} {bs : List Nat} (h : Tr W D y p l c bs) (hD : D' ≤ D) : Tr W D' y p l c bs := ⟨h.own, h.sz, h.nd, fun b hb => Nat.le_trans hD (h.lo b hb), h.lite⟩
theorem TreeRes.tr {w w' : World} {r : Nd × Int} {e : Ending} (h : TreeRes w r e w') (hl : r.1.c.nodes ≤ 1023) : ∃ p l c bs, e = .returned (.tuple #[tv r.1.k r.1.n r.1.t p l c, .int .i64 r.2]) ∧ Tr w' w.heap.size r.1 p l c bs ∧ Keeps (fun _ => False) w w' := by
  obtain ⟨cp, cl, cc, bs, he, ho, hn, hs, hk⟩ := h
  exact ⟨cp, cl, cc, bs, he, ⟨ho, hs, hn.nodup, hn.lo, hl⟩, hk⟩
abbrev c12 (x y z : Nd) (xp : Option Addr) (xl xc : Nat) (yp : Option Addr) (yl yc : Nat) (zp : Option Addr) (zl zc : Nat) : Array Value := #[.string x.k, .int .i64 x.n, .string x.t, .slice xp xl xc, .string y.k, .int .i64 y.n, .string y.t, .slice yp yl yc, .string z.k, .int .i64 z.n, .string z.t, .slice zp zl zc]
theorem row_new {W : World} {b n : Nat} {cs : Array Value} (hb : W.heap[b]? = some (.cells cs T (0, 0))) (hc : cs.size = n * 4) (hn : n ≤ 1000) : W.ownsRow 0 T 4 (.slice (some ⟨b, 0, none⟩) n n) n cs.toList :=
  ⟨by simpa using hc, .inr ⟨b, n, cs, rfl, Nat.zero_le _, hb, Nat.le_refl _, by unfold maxLen; omega, hc, by rw [List.take_of_length_le (by simp [hc])]⟩⟩
/-- The books: n lists were taken at most, m times three trees kept, q lists of names; P: their blocks. -/
structure FBk (pb kb n m q : Nat) (P : Nat → Prop) (W : World) (lv nv : Value) (sz : Int) (kp : Option Addr) (kl kc : Nat) (xs : List Value) (f : Fo) (bs : List Nat) (vs : List Value) (cs : List (Nat × List Value)) (ns : List Nat) (lv2 : Value) (sz2 : Int) (vs2 : List Value) (cs2 : List (Nat × List Value)) : Prop where
  bk : B4 (pb + 3) pb W lv nv sz (.slice kp kl kc) vs cs ns
  kr : W.ownsRow (pb + 3) T 4 (.slice kp kl kc) kl xs
  kf : f.len = kl
  kt : RowRep W f xs bs
  kn : bs.Nodup
  kd : f.nodes ≤ m * 3072
  kll : kl ≤ 3 * m
  nm : K2 (pb + 3) kb W lv2 sz2 vs2 cs2
  c1 : vs.length ≤ n
  c2 : 0 ≤ sz
  c3 : sz ≤ 30000000 * (n : Int)
  c4 : ∀ c ∈ cs, c.1 ≤ 200000
  d1 : vs2.length ≤ q
  d2 : 0 ≤ sz2
  d3 : sz2 ≤ 200000 * (q : Int)
  d4 : ∀ c ∈ cs2, c.1 ≤ 100000
  a1 : ∀ b ∈ bs, pb + 3 ≤ b ∧ ¬ B4.Blk pb lv nv vs b
  a2 : ∀ b, (Value.slice kp kl kc).ownBlock = some b → b ∉ bs ∧ ¬ B4.Blk pb lv nv vs b
  a3 : ∀ b, K2.Blk kb lv2 vs2 b → ¬ (B4.Blk pb lv nv vs b ∨ b ∈ bs ∨ (Value.slice kp kl kc).ownBlock = some b)
  p1 : ∀ b, (B4.Blk pb lv nv vs b ∨ b ∈ bs ∨ (Value.slice kp kl kc).ownBlock = some b ∨ K2.Blk kb lv2 vs2 b) → P b
  p2 : ∀ b, P b → pb ≤ b ∧ b ≠ pb + 1 ∧ b < W.heap.size
  big : pb + 3 ≤ W.heap.size
def FB (pb kb n m q : Nat) (P : Nat → Prop) (W : World) : Prop := ∃ lv nv sz kp kl kc xs f bs vs cs ns lv2 sz2 vs2 cs2, FBk pb kb n m q P W lv nv sz kp kl kc xs f bs vs cs ns lv2 sz2 vs2 cs2
section

variable {pb kb n m q : Nat} {P : Nat → Prop} {W W1 : World}

theorem FB.in_ (h : FB pb kb n m q P W) {b : Nat} (hb : P b) : pb ≤ b ∧ b ≠ pb + 1 ∧ b < W.heap.size := by
  obtain ⟨lv, nv, sz, kp, kl, kc, xs, f, bs, vs, cs, ns, lv2, sz2, vs2, cs2, h⟩ := h
  exact h.p2 b hb
theorem FB.big (h : FB pb kb n m q P W) : pb + 3 ≤ W.heap.size := by
  obtain ⟨lv, nv, sz, kp, kl, kc, xs, f, bs, vs, cs, ns, lv2, sz2, vs2, cs2, h⟩ := h
  exact h.big
theorem FB.keeps {S : Nat → Prop} (h : FB pb kb n m q P W) (hk : Keeps S W W1) (hS : ∀ b, S b → ¬ P b) : FB pb kb n m q P W1 := by
  obtain ⟨lv, nv, sz, kp, kl, kc, xs, f, bs, vs, cs, ns, lv2, sz2, vs2, cs2, h⟩ := h
  have hlow : ∀ b ∈ bs, b < W.heap.size := fun b hb => (h.p2 b (h.p1 b (.inr (.inl hb)))).2.2
  exact ⟨lv, nv, sz, kp, kl, kc, xs, f, bs, vs, cs, ns, lv2, sz2, vs2, cs2, h.bk.keeps hk (fun b hb e => hS b hb (h.p1 b (.inl e))),
    ownsRow_same h.kr (fun b hb => hk.block b (h.kr.lt b (by simpa using hb)).2 (fun e => hS b e (h.p1 b (.inr (.inr (.inl (by simpa using hb))))))), h.kf,
    h.kt.keeps hk (fun b hb => ⟨hlow b hb, fun e => hS b e (h.p1 b (.inr (.inl hb)))⟩), h.kn, h.kd, h.kll, h.nm.keeps hk (fun b hb e => hS b hb (h.p1 b (.inr (.inr (.inr e))))),
    h.c1, h.c2, h.c3, h.c4, h.d1, h.d2, h.d3, h.d4, h.a1, h.a2, h.a3, h.p1, fun b hb => ⟨(h.p2 b hb).1, (h.p2 b hb).2.1, Nat.lt_of_lt_of_le (h.p2 b hb).2.2 hk.size⟩, Nat.le_trans h.big hk.size⟩
theorem FB.next (h : FB pb kb n m q P W) (hk : Keeps (fun _ => False) W W1) : FB pb kb n m q P W1 := h.keeps hk (fun _ h => h.elim)
theorem FB.mono {P' : Nat → Prop} {n' : Nat} (h : FB pb kb n m q P W) (hP : ∀ b, P b → P' b) (h2 : ∀ b, P' b → pb ≤ b ∧ b ≠ pb + 1 ∧ b < W.heap.size) (hn : n ≤ n') : FB pb kb n' m q P' W := by
  obtain ⟨lv, nv, sz, kp, kl, kc, xs, f, bs, vs, cs, ns, lv2, sz2, vs2, cs2, h⟩ := h
  have := h.c1
  have := h.c3
  exact ⟨lv, nv, sz, kp, kl, kc, xs, f, bs, vs, cs, ns, lv2, sz2, vs2, cs2, h.bk, h.kr, h.kf, h.kt, h.kn, h.kd, h.kll, h.nm, by omega, h.c2, by omega, h.c4, h.d1, h.d2, h.d3, h.d4, h.a1, h.a2, h.a3, fun b hb => hP b (h.p1 b hb), h2, h.big⟩
/-- Empty books. -/
theorem FB.start (h1 : W.heap[pb]? = some (.cells #[.slice none 0 0, .slice none 0 0, .int .i64 0, .slice none 0 0] T4 (0, 0))) (h2 : W.heap[pb + 2]? = some (.cells #[.slice none 0 0, .int .i64 0] TK (0, 0))) : FB pb (pb + 2) 0 0 0 (fun b => b = pb ∨ b = pb + 2) W := by
  have hl := heap_lt h2
  have hb4 : ∀ b, B4.Blk pb (.slice none 0 0) (.slice none 0 0) [] b → b = pb := fun b hb => by
    rcases hb with hb | (hb | ⟨v, hv, hb⟩) | hb
    · exact hb
    · simp [Value.ownBlock] at hb
    · simp at hv
    · simp [Value.ownBlock] at hb
  have hk2 : ∀ b, K2.Blk (pb + 2) (.slice none 0 0) [] b → b = pb + 2 := fun b hb => by
    rcases hb with hb | (hb | ⟨v, hv, hb⟩)
    · exact hb
    · simp [Value.ownBlock] at hb
    · simp at hv
  refine ⟨.slice none 0 0, .slice none 0 0, 0, none, 0, 0, [], .nil, [], [], [], [], .slice none 0 0, 0, [], [], ⟨h1, ⟨World.ownsRow_nil _ _ _ _, rfl, fun i v c hv => by simp at hv, fun i j v v' b hv => by simp at hv⟩, rfl, World.ownsRow_nil _ _ _ _, fun i n c hn => by simp at hn⟩,
    World.ownsRow_nil _ _ _ _, rfl, ⟨rfl, rfl⟩, List.nodup_nil, by simp [Fo.nodes], Nat.le_refl _, ⟨h2, ⟨World.ownsRow_nil _ _ _ _, rfl, fun i v c hv => by simp at hv, fun i j v v' b hv => by simp at hv⟩⟩, Nat.le_refl _, Int.le_refl _, by simp, fun c hc => by simp at hc, Nat.le_refl _, Int.le_refl _, by simp, fun c hc => by simp at hc,
    fun b hb => by simp at hb, fun b hb => by simp [Value.ownBlock] at hb, fun b hb e => ?_, fun b hb => ?_, fun b hb => ?_, by omega⟩
  · have := hk2 b hb
    rcases e with e | e | e
    · have := hb4 b e; omega
    · simp at e
    · simp [Value.ownBlock] at e
  · rcases hb with e | e | e | e
    · exact .inl (hb4 b e)
    · simp at e
    · simp [Value.ownBlock] at e
    · exact .inr (hk2 b e)
  · omega
/-- Three trees are kept. -/
theorem FB.keepT (h : FB pb kb n m q P W) (hm : m ≤ 1000) {vb : Nat} {x y z : Nd} {xp yp zp : Option Addr} {xl xc yl yc zl zc : Nat} {b1 b2 b3 : List Nat} (hv : W.heap[vb]? = some (.cells (c12 x y z xp xl xc yp yl yc zp zl zc) T (0, 0)))
    {D : Nat} (hx : Tr W D x xp xl xc b1) (hy : Tr W D y yp yl yc b2) (hz : Tr W D z zp zl zc b3) (hD : pb + 3 ≤ D) (hP : ∀ b, P b → b < D) (hnd : (b1 ++ b2 ++ b3).Nodup) :
    Calls Try.prog 27 #[.pointer (some ⟨pb, 0, none⟩), .slice (some ⟨vb, 0, none⟩) 3 3] W fun e W' => (∃ u, e = .returned u) ∧ FB pb kb n (m + 1) q (fun b => P b ∨ b ∈ b1 ++ b2 ++ b3 ∨ (W.heap.size ≤ b ∧ b < W'.heap.size)) W' ∧ Keeps P W W' := by
  obtain ⟨lv, nv, sz, kp, kl, kc, xs, f, bs, vs, cs, ns, lv2, sz2, vs2, cs2, h⟩ := h
  have hkm := h.kll
  refine (keep4_any (pb + 3) pb lv nv sz kp kl kc xs vb 3 (c12 x y z xp xl xc yp yl yc zp zl zc) W h.bk.box h.kr h.big hv (by simp) (by omega) (by omega) (by simp [Value.oneCell'])).mono ?_
  rintro e W' ⟨he, g, c, h1, h2, h3, h4⟩
  have hs := h3.size
  have hnb : ∀ b ∈ b1 ++ b2 ++ b3, D ≤ b ∧ b < W.heap.size := fun b hb => by
    rcases List.mem_append.1 hb with hb | hb
    · rcases List.mem_append.1 hb with hb | hb
      · exact ⟨hx.lo b hb, hx.hi b hb⟩
      · exact ⟨hy.lo b hb, hy.hi b hb⟩
    · exact ⟨hz.lo b hb, hz.hi b hb⟩
  have hkb : ∀ b, (b = pb ∨ (Value.slice kp kl kc).ownBlock = some b) → P b := fun b hb => h.p1 b (hb.elim (fun e => .inl (.inl e)) (fun e => .inr (.inr (.inl e))))
  have hPl : ∀ b, P b → b < W.heap.size := fun b hb => (h.p2 b hb).2.2
  have hnk : ∀ b, (b = pb ∨ (Value.slice kp kl kc).ownBlock = some b) → ¬ Lists.Blk lv vs b ∧ nv.ownBlock ≠ some b ∧ b ∉ bs ∧ ¬ K2.Blk kb lv2 vs2 b := fun b hb => by
    rcases hb with rfl | hb
    · exact ⟨h.bk.pbne.1, h.bk.pbne.2, fun e => (h.a1 _ e).2 (.inl rfl), fun e => h.a3 _ e (.inl (.inl rfl))⟩
    · have := h.a2 b hb
      exact ⟨fun e => this.2 (.inr (.inl e)), fun e => this.2 (.inr (.inr e)), this.1, fun e => h.a3 b e (.inr (.inr hb))⟩
  have hbkW : B4 (pb + 3) pb W' lv nv sz (.slice (some ⟨g, 0, none⟩) (kl + 3) c) vs cs ns :=
    ⟨h1, h.bk.lists.keeps h3 (fun b hb e => (hnk b hb).1 e), h.bk.nlen, ownsRow_same h.bk.lens (fun b hb => h3.block b (h.bk.lens.lt b (by simpa using hb)).2 (fun e => (hnk b e).2.1 (by simpa using hb))), h.bk.good⟩
  have hrep0 := h.kt.keeps h3 (fun b hb => ⟨hPl b (h.p1 b (.inr (.inl hb))), fun e => (hnk b e).2.2.1 hb⟩)
  have hP' : ∀ b ∈ b1 ++ b2 ++ b3, ¬ P b := fun b hb e => by have := hP b e; have := (hnb b hb).1; omega
  have hX := hx.keeps h3 (fun b hb e => hP' b (List.mem_append.2 (.inl (List.mem_append.2 (.inl hb)))) (hkb b e))
  have hY := hy.keeps h3 (fun b hb e => hP' b (List.mem_append.2 (.inl (List.mem_append.2 (.inr hb)))) (hkb b e))
  have hZ := hz.keeps h3 (fun b hb e => hP' b (List.mem_append.2 (.inr hb)) (hkb b e))
  have hrep := RowRep.snoc (n := z.n) hZ.sz hZ.own (RowRep.snoc (n := y.n) hY.sz hY.own (RowRep.snoc (n := x.n) hX.sz hX.own hrep0))
  have hgk : (Value.slice (some ⟨g, 0, none⟩) (kl + 3) c).ownBlock = some g := rfl
  have hgo : g ∉ bs ++ (b1 ++ b2 ++ b3) ∧ ¬ B4.Blk pb lv nv vs g ∧ ¬ K2.Blk kb lv2 vs2 g := by
    rcases h4 with h4 | h4
    · have := h.a2 g h4
      refine ⟨fun e => ?_, this.2, fun e => h.a3 g e (.inr (.inr h4))⟩
      rcases List.mem_append.1 e with e | e
      · exact this.1 e
      · exact hP' g e (hkb g (.inr h4))
    · refine ⟨fun e => ?_, fun e => ?_, fun e => ?_⟩
      · rcases List.mem_append.1 e with e | e
        · have := hPl g (h.p1 g (.inr (.inl e))); omega
        · have := (hnb g e).2; omega
      · have := hPl g (h.p1 g (.inl e)); omega
      · have := hPl g (h.p1 g (.inr (.inr (.inr e)))); omega
  have hgl : g < W'.heap.size := (h2.lt g rfl).2
  refine ⟨he, ⟨lv, nv, sz, some ⟨g, 0, none⟩, kl + 3, c, xs ++ [.string x.k, .int .i64 x.n, .string x.t, .slice xp xl xc] ++ [.string y.k, .int .i64 y.n, .string y.t, .slice yp yl yc] ++ [.string z.k, .int .i64 z.n, .string z.t, .slice zp zl zc], ((f.snoc x.k x.n x.t x.c).snoc y.k y.n y.t y.c).snoc z.k z.n z.t z.c, bs ++ (b1 ++ b2 ++ b3), vs, cs, ns, lv2, sz2, vs2, cs2, hbkW, ?_, ?_, ?_, ?_, ?_, by omega, h.nm.keeps h3 (fun b hb => (hnk b hb).2.2.2), h.c1, h.c2, h.c3, h.c4, h.d1, h.d2, h.d3, h.d4, fun b hb => ?_, fun b hb => ?_, fun b hb e => ?_, fun b hb => ?_, fun b hb => ?_, by have := h.big; omega⟩, h3.mono fun b hb _ => hkb b hb⟩
  · simpa [List.append_assoc] using h2
  · rw [Fo.len_snoc, Fo.len_snoc, Fo.len_snoc, h.kf]
  · simpa [List.append_assoc] using hrep
  · refine List.nodup_append.2 ⟨h.kn, hnd, fun a ha b hb e => ?_⟩
    subst e
    exact hP' a hb (h.p1 a (.inr (.inl ha)))
  · rw [Fo.nodes_snoc, Fo.nodes_snoc, Fo.nodes_snoc]
    have := h.kd
    have := hx.lite
    have := hy.lite
    have := hz.lite
    omega
  · rcases List.mem_append.1 hb with hb | hb
    · exact h.a1 b hb
    · exact ⟨by have := (hnb b hb).1; omega, fun e => hP' b hb (h.p1 b (.inl e))⟩
  · have e : g = b := by simpa [Value.ownBlock] using hb
    subst e
    exact ⟨hgo.1, hgo.2.1⟩
  · rcases e with e | e | e
    · exact h.a3 b hb (.inl e)
    · rcases List.mem_append.1 e with e | e
      · exact h.a3 b hb (.inr (.inl e))
      · exact hP' b e (h.p1 b (.inr (.inr (.inr hb))))
    · have e : g = b := by simpa [Value.ownBlock] using e
      subst e
      exact hgo.2.2 hb
  · rcases hb with e | e | e | e
    · exact .inl (h.p1 b (.inl e))
    · rcases List.mem_append.1 e with e | e
      · exact .inl (h.p1 b (.inr (.inl e)))
      · exact .inr (.inl e)
    · have e : g = b := by simpa [Value.ownBlock] using e
      subst e
      rcases h4 with h4 | h4
      · exact .inl (hkb g (.inr h4))
      · exact .inr (.inr ⟨h4, hgl⟩)
    · exact .inl (h.p1 b (.inr (.inr (.inr e))))
  · rcases hb with e | e | e
    · have := h.p2 b e; omega
    · have := hnb b e; omega
    · have := h.big; omega
/-- A list of names is kept. -/
theorem FB.keepN (h : FB pb kb n m q P W) (hq : q ≤ 1000) {vb : Nat} {vp : Option Addr} {vl vc : Nat} {ys : List Value} (hv : W.heap[vb]? = some (.cells #[.slice vp vl vc] TSn (0, 0))) {D : Nat} (hr : W.ownsRow D TSt 1 (.slice vp vl vc) vl ys) (hD : pb + 3 ≤ D) (hP : ∀ b, P b → b < D) (hvb : ¬ P vb) (hvl : vl ≤ 100000) :
    Calls Try.prog 28 #[.pointer (some ⟨kb, 0, none⟩), .slice (some ⟨vb, 0, none⟩) 1 1] W fun e W' => (∃ u, e = .returned u) ∧ FB pb kb n m (q + 1) (fun b => P b ∨ (Value.slice vp vl vc).ownBlock = some b ∨ (W.heap.size ≤ b ∧ b < W'.heap.size)) W' ∧ Keeps P W W' := by
  obtain ⟨lv, nv, sz, kp, kl, kc, xs, f, bs, vs, cs, ns, lv2, sz2, vs2, cs2, h⟩ := h
  have hkP : ∀ b, K2.Blk kb lv2 vs2 b → P b := fun b hb => h.p1 b (.inr (.inr (.inr hb)))
  have hown : ∀ b, (Value.slice vp vl vc).ownBlock = some b → D ≤ b ∧ b < W.heap.size := fun b hb => hr.lt b hb
  have hnP : ∀ b, (Value.slice vp vl vc).ownBlock = some b → ¬ P b := fun b hb e => by have := hown b hb; have := hP b e; omega
  have hd1 := h.d1
  have hd3 := h.d3
  refine (lkeep_any (pb + 3) kb lv2 sz2 vs2 cs2 vb vp vl vc ys W h.nm h.big hv (ownsRow_base hr hD) (fun b hb e => hnP b hb (hkP b e)) (fun e => hvb (hkP vb e)) (by omega) h.d2 (by omega) hvl).mono ?_
  rintro e W' ⟨he, lv', sz', vs', cs', h1, h2, h3, h4, h5, h6, h7⟩
  have hs := h6.size
  have hPl : ∀ b, P b → b < W.heap.size := fun b hb => (h.p2 b hb).2.2
  refine ⟨he, ⟨lv, nv, sz, kp, kl, kc, xs, f, bs, vs, cs, ns, lv', sz', vs', cs', h.bk.keeps h6 (fun b hb e => h.a3 b hb (.inl e)),
    ownsRow_same h.kr (fun b hb => h6.block b (h.kr.lt b (by simpa using hb)).2 (fun e => h.a3 b e (.inr (.inr (by simpa using hb))))), h.kf,
    h.kt.keeps h6 (fun b hb => ⟨hPl b (h.p1 b (.inr (.inl hb))), fun e => h.a3 b e (.inr (.inl hb))⟩), h.kn, h.kd, h.kll, h1, h.c1, h.c2, h.c3, h.c4, by omega, h2, by omega, fun c hc => (h5 c hc).elim (h.d4 c) (fun e => by omega), h.a1, h.a2, fun b hb e => ?_, fun b hb => ?_, fun b hb => ?_, by have := h.big; omega⟩, h6.mono fun b hb _ => hkP b hb⟩
  · have heP : P b := h.p1 b (e.elim .inl (fun e => e.elim (fun e => .inr (.inl e)) (fun e => .inr (.inr (.inl e)))))
    rcases h7 b hb with h7 | h7 | h7
    · exact h.a3 b h7 e
    · exact hnP b h7 heP
    · have := hPl b heP; omega
  · rcases hb with e | e | e | e
    · exact .inl (h.p1 b (.inl e))
    · exact .inl (h.p1 b (.inr (.inl e)))
    · exact .inl (h.p1 b (.inr (.inr (.inl e))))
    · rcases h7 b e with h7 | h7 | h7
      · exact .inl (hkP b h7)
      · exact .inr (.inl h7)
      · exact .inr (.inr ⟨h7, h1.lt e⟩)
  · rcases hb with e | e | e
    · have := h.p2 b e; omega
    · have := hown b e; omega
    · have := h.big; omega
/-- Trees are taken. -/
theorem FB.take (h : FB pb kb n m q P W) (hn : n ≤ 3900000) {f' : Fo} {tp : Option Addr} {tl tc : Nat} {ys : List Value} {bs' : List Nat} (ht : W.ownsRow 0 T 4 (.slice tp tl tc) tl ys) (hf : f'.len = tl) (hrep : RowRep W f' ys bs') (hnd : bs'.Nodup) (hb : ∀ b ∈ bs', pb + 3 ≤ b ∧ ¬ P b) (hfn : f'.nodes ≤ 3072) :
    Calls Try.prog 29 #[.pointer (some ⟨pb, 0, none⟩), .slice tp tl tc] W fun e W' => (∃ u, e = .returned u) ∧ FB pb kb (n + 3072) m q (fun b => P b ∨ b ∈ bs' ∨ (W.heap.size ≤ b ∧ b < W'.heap.size)) W' ∧ Keeps (fun b => P b ∨ b ∈ bs') W W' := by
  obtain ⟨lv, nv, sz, kp, kl, kc, xs, f, bs, vs, cs, ns, lv2, sz2, vs2, cs2, h⟩ := h
  have hbP : ∀ b, B4.Blk pb lv nv vs b → P b := fun b e => h.p1 b (.inl e)
  have hbl := hrep.blen4
  have hc1 := h.c1
  have hc3 := h.c3
  refine (take4_any (pb + 3) pb lv nv (.slice kp kl kc) sz vs cs ns f' tp tl tc ys bs' W h.bk h.big ht hf hrep hnd (fun b hb' => ⟨(hb b hb').1, fun e => (hb b hb').2 (hbP b e)⟩) (by omega) (by omega) h.c2 (by omega) h.c4).mono ?_
  rintro e W' ⟨he, lv', nv', sz', vs', cs', ns', h1, h2, h3, h4, h5, h6, h7⟩
  have hs := h6.size
  have hPl : ∀ b, P b → b < W.heap.size := fun b hb => (h.p2 b hb).2.2
  have hlow : ∀ b ∈ bs', b < W.heap.size := fun b hb => by obtain ⟨cur, hh⟩ := hrep.shape b hb; exact heap_lt hh
  have hno : ∀ b, P b → ¬ B4.Blk pb lv nv vs b → ¬ B4.Blk pb lv' nv' vs' b := fun b hp hn e => by
    rcases h7 b e with h7 | h7 | h7
    · exact hn h7
    · exact (hb b h7).2 hp
    · have := hPl b hp; omega
  have hkk : ∀ b, P b → ¬ B4.Blk pb lv nv vs b → ¬ (B4.Blk pb lv nv vs b ∨ b ∈ bs') := fun b hp hn e => e.elim hn (fun e => (hb b e).2 hp)
  refine ⟨he, ⟨lv', nv', sz', kp, kl, kc, xs, f, bs, vs', cs', ns', lv2, sz2, vs2, cs2, h1,
    ownsRow_same h.kr (fun b hb => h6.block b (h.kr.lt b (by simpa using hb)).2 (fun e => hkk b (h.p1 b (.inr (.inr (.inl (by simpa using hb))))) (h.a2 b (by simpa using hb)).2 e)), h.kf,
    h.kt.keeps h6 (fun b hb => ⟨hPl b (h.p1 b (.inr (.inl hb))), hkk b (h.p1 b (.inr (.inl hb))) (h.a1 b hb).2⟩), h.kn, h.kd, h.kll,
    h.nm.keeps h6 (fun b hb e => hkk b (h.p1 b (.inr (.inr (.inr e)))) (fun e2 => h.a3 b e (.inl e2)) hb), by omega, h2, by omega, h5, h.d1, h.d2, h.d3, h.d4,
    fun b hb => ⟨(h.a1 b hb).1, hno b (h.p1 b (.inr (.inl hb))) (h.a1 b hb).2⟩, fun b hb => ⟨(h.a2 b hb).1, hno b (h.p1 b (.inr (.inr (.inl hb)))) (h.a2 b hb).2⟩, fun b hb e => ?_, fun b hb => ?_, fun b hb => ?_, by have := h.big; omega⟩, h6.mono fun b hb _ => hb.imp_left (hbP b)⟩
  · have hp := h.p1 b (.inr (.inr (.inr hb)))
    rcases e with e | e
    · exact hno b hp (fun e2 => h.a3 b hb (.inl e2)) e
    · exact h.a3 b hb (.inr e)
  · rcases hb with e | e | e | e
    · rcases h7 b e with h7 | h7 | h7
      · exact .inl (hbP b h7)
      · exact .inr (.inl h7)
      · exact .inr (.inr ⟨h7, h1.lt e⟩)
    · exact .inl (h.p1 b (.inr (.inl e)))
    · exact .inl (h.p1 b (.inr (.inr (.inl e))))
    · exact .inl (h.p1 b (.inr (.inr (.inr e))))
  · rcases hb with e | e | e
    · have := h.p2 b e; omega
    · have := hb b e; have := hlow b e; omega
    · have := h.big; omega
/-- The books are whole. -/
theorem FB.whole (h : FB pb kb n m q P W) (hn : n ≤ 3000000) (hm : m ≤ 60) (hq : q ≤ 1000) :
    Calls Try.prog 30 #[.pointer (some ⟨pb, 0, none⟩)] W fun e W' => e = .returned (.bool true) ∧ Keeps P W W' ∧
      Calls Try.prog 31 #[.pointer (some ⟨kb, 0, none⟩)] W' fun e W'' => e = .returned (.bool true) ∧ Keeps P W' W'' := by
  obtain ⟨lv, nv, sz, kp, kl, kc, xs, f, bs, vs, cs, ns, lv2, sz2, vs2, cs2, h⟩ := h
  have hbl := h.kt.blen4
  have hkd := h.kd
  have hc1 := h.c1
  have hc3 := h.c3
  have hd1 := h.d1
  refine (whole4_any (pb + 3) pb lv nv sz vs cs ns f kp kl kc xs bs W h.bk h.big (ownsRow_low h.kr) h.kf h.kt h.kn h.a1 (by omega) (by omega) h.c2 (by omega) h.c4).mono ?_
  rintro e W' ⟨he, hk⟩
  refine ⟨he, hk.mono fun b hb _ => h.p1 b (hb.imp_right .inl), ?_⟩
  exact (apart2_any (pb + 3) kb lv2 sz2 vs2 cs2 W' (h.nm.keeps hk (fun b hb e => h.a3 b e (hb.imp_right .inl))) (by have := h.big; have := hk.size; omega) (by omega) h.d4).mono fun e W'' ⟨h1, h2⟩ => ⟨h1, h2.mono fun b hb _ => h.p1 b (.inr (.inr (.inr hb)))⟩
end

end Go.Proofs.Ytnphhibfiklfjaa
