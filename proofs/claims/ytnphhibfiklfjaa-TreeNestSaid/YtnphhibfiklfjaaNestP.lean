/-
  espalierlaw4.Room: its walk; the book of paths in memory.
-/
import Derived.Test.YtnphhibfiklfjaaQuietR
import Derived.Test.YtnphhibfiklfjaaPathsJ
set_option linter.unusedVariables false
set_option linter.unusedSimpArgs false
namespace Go.Proofs.Ytnphhibfiklfjaa
open Go.RowKit

def roomF (n a : Int) : Int := if n + 70000 < a then n + 70000 else a
theorem Room_any (n a : Int) (h0 : 0 ≤ n) (h1 : n ≤ 4611686018427387904) (w : World) : Calls Try.prog 45 #[.int .i64 n, .int .i64 a] w fun e w' => e = .returned (.int .i64 (roomF n a)) ∧ w = w' := by
  by_cases h : n + 70000 < a
  · have hf : Hid (roomF n a = n + 70000) := by show roomF n a = _; rw [roomF, if_pos h]
    go_enter Try.func45, Try.ntmps45
    go_wp2_with fail
    go_ret
    exact ⟨by rw [hf.out]; rfl, rfl⟩
  · have hf : Hid (roomF n a = a) := by show roomF n a = _; rw [roomF, if_neg h]
    go_enter Try.func45, Try.ntmps45
    go_wp2_with fail
    go_ret
    exact ⟨by rw [hf.out]; rfl, rfl⟩
/-- A path that was taken: its block, its length, its room. -/
structure PRow where
  g : Nat
  n : Nat
  c : Nat
abbrev PRow.val (r : PRow) : Value := .slice (some ⟨r.g, 0, none⟩) r.n r.c
/-- The i-th path: its places hold its number. -/
def PRow.ok (W : World) (i : Nat) (r : PRow) : Prop := W.ownsRow 0 3 1 r.val r.n (List.replicate r.n (.int .i64 (-2 * ((i : Int) + 1))))
theorem PRow.ok.lt {W : World} {i : Nat} {r : PRow} (h : r.ok W i) : r.g < W.heap.size := (World.ownsRow.lt h r.g rfl).2
/-- A value at a place of a row. -/
theorem ownsRow_set {w : World} {D e n g c : Nat} {xs : List Value} (h : w.ownsRow D e 1 (.slice (some ⟨g, 0, none⟩) n c) n xs) (k : Nat) (hk : k < n) (v : Value) : (w.setCell ⟨g, k, none⟩ v).ownsRow D e 1 (.slice (some ⟨g, 0, none⟩) n c) n (xs.set k v) := by
  refine ⟨by rw [List.length_set]; exact h.1, ?_⟩
  rcases h.2 with ⟨h1, _⟩ | ⟨g', cap, cur, h1, h2, h3, h4, h5, h6, h7⟩
  · simp at h1
  · simp only [Value.slice.injEq, Option.some.injEq, Addr.mk.injEq, and_true, true_and] at h1
    obtain ⟨rfl, rfl⟩ := h1
    refine .inr ⟨g, c, cur.setIfInBounds k v, rfl, h2, heap_set h3 k v, h4, h5, by simpa using h6, ?_⟩
    rw [Array.toList_setIfInBounds, List.take_set, h7]
theorem fill_step {α : Type} (m : α) (xs : List α) (k : Nat) (hk : k < xs.length) : (List.replicate k m ++ xs.drop k).set k m = List.replicate (k + 1) m ++ xs.drop (k + 1) := by
  rw [List.set_append_right _ _ (by simp), List.length_replicate, Nat.sub_self, List.drop_eq_getElem_cons hk, List.set_cons_zero, List.replicate_succ']
  simp
/-- The book of paths at block pb. -/
structure PathsAt (D : Nat) (W : World) (pb : Nat) (L : List PRow) (sz : Int) (lv nv : Value) : Prop where
  box : W.heap[pb]? = some (.cells #[lv, nv, .int .i64 sz, .slice none 0 0] 44 (0, 0))
  row : W.ownsRow D 32 1 lv L.length (L.map PRow.val)
  lens : W.ownsRow D 3 1 nv L.length (L.map fun r => .int .i64 (r.n : Int))
  rows : ∀ (i : Nat) (r : PRow), L[i]? = some r → r.ok W i
  apart : (L.map PRow.g).Nodup
  lo : ∀ r ∈ L, D ≤ r.g
  ne : ∀ r ∈ L, nv.ownBlock ≠ some r.g
theorem PRow.ok.same {W W1 : World} {i : Nat} {r : PRow} (h : r.ok W i) (hb : W1.heap[r.g]? = W.heap[r.g]?) : r.ok W1 i := by
  exact ownsRow_same h (fun b hm => by
    have : b = r.g := by simpa [PRow.val, Value.ownBlock] using hm
    rw [this]; exact hb)
/-! Rows, and a place that holds one. -/
theorem ownsRow_blk {w : World} {D e s n : Nat} {v : Value} {xs : List Value} (h : w.ownsRow D e s v n xs) {b : Nat} (hb : v.ownBlock = some b) : D ≤ b ∧ ∃ cur, w.heap[b]? = some (.cells cur e (0, 0)) := by
  rcases h.2 with ⟨h1, _⟩ | ⟨g, cap, cur, h1, h2, h3, _⟩
  · rw [h1] at hb; simp [Value.ownBlock] at hb
  · rw [h1] at hb
    have : g = b := by simpa [Value.ownBlock] using hb
    subst this
    exact ⟨h2, cur, h3⟩
theorem rows_ne {w : World} {D D' e e' s s' n n' : Nat} {v v' : Value} {xs xs' : List Value} (h : w.ownsRow D e s v n xs) (h' : w.ownsRow D' e' s' v' n' xs') (he : e ≠ e') {b : Nat} (hb : v.ownBlock = some b) : v'.ownBlock ≠ some b := fun e2 => by
  obtain ⟨_, cur, h1⟩ := ownsRow_blk h hb
  obtain ⟨_, cur', h2⟩ := ownsRow_blk h' e2
  rw [h1] at h2
  simp only [Option.some.injEq, Obj.cells.injEq] at h2
  exact he h2.2.1
/-- What a statement such as 'b.l = append(b.l, x)' leaves. -/
theorem push_cell {V w3 : World} {pb i D e s n gg cap : Nat} {cs : Array Value} {TT : TypeId} {v : Value} {xs news : List Value} {o : Obj} (hbox : V.heap[pb]? = some (.cells cs TT (0, 0))) (hpb : pb < D) (hv : V.ownsRow D e s v n xs) (hg : (V.alloc o).grownBy w3 v.ownBlock)
    (hr : w3.ownsRow D e s (.slice (some ⟨gg, 0, none⟩) (n + 1) cap) (n + 1) (xs ++ news)) :
    (w3.setCell ⟨pb, i, none⟩ (.slice (some ⟨gg, 0, none⟩) (n + 1) cap)).heap[pb]? = some (.cells (cs.setIfInBounds i (.slice (some ⟨gg, 0, none⟩) (n + 1) cap)) TT (0, 0)) ∧
    (w3.setCell ⟨pb, i, none⟩ (.slice (some ⟨gg, 0, none⟩) (n + 1) cap)).ownsRow D e s (.slice (some ⟨gg, 0, none⟩) (n + 1) cap) (n + 1) (xs ++ news) ∧
    Keeps (fun b => b = pb ∨ v.ownBlock = some b) V (w3.setCell ⟨pb, i, none⟩ (.slice (some ⟨gg, 0, none⟩) (n + 1) cap)) := by
  have hne : v.ownBlock ≠ some pb := fun h => by have := (hv.lt pb h).1; omega
  have hk : Keeps (fun b => b = pb ∨ v.ownBlock = some b) V w3 := ((Keeps.refl _ V).alloc o).grown hg (fun k hk _ => .inr hk)
  have hb3 : w3.heap[pb]? = some (.cells cs TT (0, 0)) := by
    rw [hg.block pb (by have := heap_lt hbox; simp; omega) (fun h => hne h.symm), Below.heap_alloc _ _ _ (heap_lt hbox)]
    exact hbox
  refine ⟨heap_set hb3 _ _, ownsRow_same hr (fun b hb => ?_), hk.setCell (p := ⟨pb, i, none⟩) (fun _ => .inl rfl) _⟩
  have hb' : b = gg := by simpa [Value.ownBlock] using hb
  have := (hr.lt gg rfl).1
  exact Below.heap_setCell _ _ _ _ (by show b ≠ pb; omega)
/-- What does not touch its blocks leaves it. -/
theorem PathsAt.keeps {D pb : Nat} {W W1 : World} {L : List PRow} {sz : Int} {lv nv : Value} {S : Nat → Prop} (h : PathsAt D W pb L sz lv nv) (hk : Keeps S W W1) (hp : ¬ S pb) (hS : ∀ b, S b → b < D ∨ W.heap.size ≤ b) : PathsAt D W1 pb L sz lv nv := by
  have hrow : ∀ {e : TypeId} {v : Value} {n : Nat} {xs : List Value}, W.ownsRow D e 1 v n xs → W1.ownsRow D e 1 v n xs := fun {e v n xs} hv => by
    refine ownsRow_same hv (fun b hb => ?_)
    have hb' : v.ownBlock = some b := by simpa using hb
    have h1 := hv.lt b hb'
    exact hk.block b h1.2 (fun hs => by have := hS b hs; omega)
  refine ⟨(hk.block _ (heap_lt h.box) hp).trans h.box, hrow h.row, hrow h.lens, fun i r hr => ?_, h.apart, h.lo, h.ne⟩
  have h2 := (h.rows i r hr).lt
  have h3 := h.lo r (List.mem_of_getElem? hr)
  exact (h.rows i r hr).same (hk.block _ h2 (fun hs => by have := hS _ hs; omega))
/-- Its size is counted on. -/
theorem PathsAt.count {D pb : Nat} {W : World} {L : List PRow} {sz : Int} {lv nv : Value} (h : PathsAt D W pb L sz lv nv) (hp : pb < D) (sz' : Int) : PathsAt D (W.setCell ⟨pb, 2, none⟩ (.int .i64 sz')) pb L sz' lv nv := by
  have hk : Keeps (fun b => b = pb) W (W.setCell ⟨pb, 2, none⟩ (.int .i64 sz')) := (Keeps.refl (fun b => b = pb) W).setCell (p := ⟨pb, 2, none⟩) (fun _ => rfl) _
  have hrow : ∀ {e : TypeId} {v : Value} {n : Nat} {xs : List Value}, W.ownsRow D e 1 v n xs → (W.setCell ⟨pb, 2, none⟩ (.int .i64 sz')).ownsRow D e 1 v n xs := fun {e v n xs} hv => by
    refine ownsRow_same hv (fun b hb => ?_)
    have hb' : v.ownBlock = some b := by simpa using hb
    have h1 := hv.lt b hb'
    exact hk.block b h1.2 (fun hs => by omega)
  refine ⟨by rw [heap_set h.box]; rfl, hrow h.row, hrow h.lens, fun i r hr => ?_, h.apart, h.lo, h.ne⟩
  have h2 := (h.rows i r hr).lt
  have h3 := h.lo r (List.mem_of_getElem? hr)
  exact (h.rows i r hr).same (hk.block _ h2 (fun hs => by omega))
end Go.Proofs.Ytnphhibfiklfjaa
