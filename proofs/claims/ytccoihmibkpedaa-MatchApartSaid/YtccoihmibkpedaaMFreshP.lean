/-
  MatchFresh: what stays, a list of bounds while its trees are written over.
-/
import Derived.Test.YtccoihmibkpedaaPkM

import Derived.Test.YtccoihmibkpedaaPkO

import Derived.Test.YtccoihmibkpedaaSpoil

set_option linter.unusedVariables false

set_option linter.unusedSimpArgs false

namespace Go.Proofs.Ytccoihmibkpedaa

open Go.RowKit

/-- An operation in its box; what was handed in. -/
structure MF (w0 W : World) (kd : Int) (p t : Nd) (bs : List Bind) (cp tp : Option Addr) (cl cc tl tc : Nat) (bp : Option Addr) (bl bc : Nat) : Prop where
  box : W.heap[w0.heap.size]? = some (.cells (mopc kd p t cp tp cl cc tl tc bp bl bc) MT (0, 0))
  ap : Tv W (fun b => b < w0.heap.size) p.k p.t p.c cp cl cc
  at' : Tv W (fun b => b < w0.heap.size) t.k t.t t.c tp tl tc
  ab : BindsAt W (fun b => b < w0.heap.size) bs bp bl
section

variable {w0 W W1 : World} {kd : Int} {p t : Nd} {bs : List Bind} {cp tp : Option Addr} {cl cc tl tc : Nat} {bp : Option Addr} {bl bc : Nat}

theorem MF.low (h : MF w0 W kd p t bs cp tp cl cc tl tc bp bl bc) : w0.heap.size < W.heap.size := heap_lt h.box
theorem MF.keeps {S : Nat → Prop} (h : MF w0 W kd p t bs cp tp cl cc tl tc bp bl bc) (hk : Keeps S W W1) (hS : ∀ b, S b → w0.heap.size < b) : MF w0 W1 kd p t bs cp tp cl cc tl tc bp bl bc :=
  ⟨(hk.block _ (heap_lt h.box) (fun e => by have := hS _ e; omega)).trans h.box, h.ap.keeps hk (fun b hb e => by have := hS _ e; omega), h.at'.keeps hk (fun b hb e => by have := hS _ e; omega), h.ab.keeps hk (fun b hb e => by have := hS _ e; omega)⟩
theorem MF.next (h : MF w0 W kd p t bs cp tp cl cc tl tc bp bl bc) (hk : Keeps (fun _ => False) W W1) : MF w0 W1 kd p t bs cp tp cl cc tl tc bp bl bc := h.keeps hk (fun _ h => h.elim)
theorem MF.start {b o : Nat} (h : MOpAt w0 b o kd p t bs cp tp cl cc tl tc bp bl bc) : MF w0 (w0.alloc (.cells (mopc kd p t cp tp cl cc tl tc bp bl bc) MT)) kd p t bs cp tp cl cc tl tc bp bl bc := by
  have hk : Keeps (fun _ => False) w0 (w0.alloc (.cells (mopc kd p t cp tp cl cc tl tc bp bl bc) MT)) := (Keeps.refl _ w0).alloc _
  exact ⟨heap_alloc_new _ _, h.ap.next hk, h.at'.next hk, h.ab.next hk⟩
end

theorem fitsB_small {p t : Nd} : ∀ e ∈ fitsB p t, e.2.small := by
  unfold fitsB fitsF
  split
  · rename_i h
    exact fit1_small (by simp) (mayF_small h.2.1)
  · simp
theorem fillF_small (p : Nd) (bs : List Bind) : (fillF p bs).1.small := by
  have h0 : zeroNd.small := by decide
  unfold fillF
  repeat' split
  all_goals first | assumption | exact h0
abbrev set5 (W : World) (g o : Nat) (v0 v1 v2 v3 v4 : Value) : World := ((((W.setCell ⟨g, o, none⟩ v0).setCell ⟨g, o + 1, none⟩ v1).setCell ⟨g, o + 2, none⟩ v2).setCell ⟨g, o + 3, none⟩ v3).setCell ⟨g, o + 4, none⟩ v4
theorem set5_keeps (W : World) (g o : Nat) (v0 v1 v2 v3 v4 : Value) : Keeps (fun b => b = g) W (set5 W g o v0 v1 v2 v3 v4) :=
  (((((Keeps.refl (fun b => b = g) W).setCell (p := ⟨g, o, none⟩) (fun _ => rfl) _).setCell (p := ⟨g, o + 1, none⟩) (fun _ => rfl) _).setCell (p := ⟨g, o + 2, none⟩) (fun _ => rfl) _).setCell (p := ⟨g, o + 3, none⟩) (fun _ => rfl) _).setCell (p := ⟨g, o + 4, none⟩) (fun _ => rfl) _
theorem set5_cell {W : World} {g o i : Nat} (v0 v1 v2 v3 v4 : Value) (h : o + 5 ≤ i) : (set5 W g o v0 v1 v2 v3 v4).cell? ⟨g, i, none⟩ = W.cell? ⟨g, i, none⟩ := by
  rw [cell_other (by omega), cell_other (by omega), cell_other (by omega), cell_other (by omega), cell_other (by omega)]
/-- The list behind k rounds. -/
structure SI (g : Nat) (L : List Bind) (xs : List Value) (blks : List Nat) (k : Nat) (W : World) : Prop where
  blk : ∃ cur, W.heap[g]? = some (.cells cur TB (0, 0))
  cells : ∀ i u, k * 5 ≤ i → xs[i]? = some u → W.cell? ⟨g, i, none⟩ = some u
  rep : ∃ bs0 bs', blks = bs0 ++ bs' ∧ BindsRep W (L.drop k) (xs.drop (k * 5)) bs'
  nod : blks.Nodup
  ne : g ∉ blks
theorem SI.next {g : Nat} {L : List Bind} {xs : List Value} {blks : List Nat} {k : Nat} {W W1 : World} (h : SI g L xs blks k W) (hk : Keeps (fun _ => False) W W1) : SI g L xs blks k W1 := by
  obtain ⟨cur, hc⟩ := h.blk
  obtain ⟨bs0, bs', h1, h2⟩ := h.rep
  exact ⟨⟨cur, hk.heap hc⟩, fun i u hi hu => (hk.cell (p := ⟨g, i, none⟩) (heap_lt hc) (fun h => h)).trans (h.cells i u hi hu), ⟨bs0, bs', h1, h2.same fun b hb => by obtain ⟨c, hh⟩ := h2.shape b hb; exact hk.block b (heap_lt hh) (fun h => h)⟩, h.nod, h.ne⟩
theorem SI.start {D : Nat} {W : World} {L : List Bind} {lp : Option Addr} {ll lc : Nat} {xs : List Value} {blks : List Nat} (h : BindsI D W L lp ll lc xs blks) (h0 : 0 < ll) : ∃ g, lp = some ⟨g, 0, none⟩ ∧ D ≤ g ∧ g < W.heap.size ∧ SI g L xs blks 0 W := by
  have hl := h.length
  have hrow := h.row
  rcases hrow.2 with ⟨h1, h2⟩ | ⟨g, cap, cur, h1, h2, h3, h4, h5, h6, h7⟩
  · omega
  · simp only [Value.slice.injEq] at h1
    obtain ⟨rfl, _, rfl⟩ := h1
    refine ⟨g, rfl, h2, heap_lt h3, ⟨⟨cur, h3⟩, fun i u _ hu => ?_, ⟨[], blks, rfl, by simpa using h.rep⟩, h.nodup, fun hg => h.ne hg rfl⟩⟩
    have h8 : cur.toList[i]? = some u := by
      rw [← h7, List.getElem?_take] at hu
      split at hu
      · exact hu
      · simp at hu
    simp only [World.cell?, h3]
    simpa using h8
theorem SI.open {g : Nat} {L : List Bind} {xs : List Value} {blks : List Nat} {k : Nat} {W : World} (h : SI g L xs blks k W) {nm : ByteArray} {x : Nd} (hx : L[k]? = some (nm, x)) :
    ∃ cp cl cc bs1, (W.cell? ⟨g, k * 5, none⟩ = some (.string nm) ∧ W.cell? ⟨g, k * 5 + 1, none⟩ = some (.string x.k) ∧ W.cell? ⟨g, k * 5 + 2, none⟩ = some (.int .i64 x.n) ∧ W.cell? ⟨g, k * 5 + 3, none⟩ = some (.string x.t) ∧ W.cell? ⟨g, k * 5 + 4, none⟩ = some (.slice cp cl cc)) ∧
      Own W x.c cp cl cc bs1 ∧ bs1.Nodup ∧ (∀ b ∈ bs1, b ∈ blks) ∧ ∀ W2, Keeps (fun b => b ∈ bs1) W W2 →
        ((W2.cell? ⟨g, k * 5, none⟩ = some (.string nm) ∧ W2.cell? ⟨g, k * 5 + 1, none⟩ = some (.string x.k) ∧ W2.cell? ⟨g, k * 5 + 2, none⟩ = some (.int .i64 x.n) ∧ W2.cell? ⟨g, k * 5 + 3, none⟩ = some (.string x.t) ∧ W2.cell? ⟨g, k * 5 + 4, none⟩ = some (.slice cp cl cc)) ∧ (∀ i, W2.frozen? ⟨g, i, none⟩ = false)) ∧
        ∀ v0 v1 v2 v3 v4, SI g L xs blks (k + 1) (set5 W2 g (k * 5) v0 v1 v2 v3 v4) := by
  obtain ⟨cur, hcur⟩ := h.blk
  obtain ⟨bs0, bs', hb, hr⟩ := h.rep
  have hd : L.drop k = (nm, x) :: L.drop (k + 1) := by rw [List.drop_eq_getElem_cons (List.getElem?_eq_some_iff.1 hx).1, (List.getElem?_eq_some_iff.1 hx).2]
  rw [hd] at hr
  obtain ⟨cp, cl, cc, bs1, xs', bs2, hxs, rfl, _, _, hO, hrest⟩ := hr
  have hcell : ∀ d u, (xs.drop (k * 5))[d]? = some u → W.cell? ⟨g, k * 5 + d, none⟩ = some u := fun d u hu => h.cells _ _ (by omega) (by rwa [List.getElem?_drop] at hu)
  rw [hxs] at hcell
  have hsub : ∀ b ∈ bs1, b ∈ blks := fun b hb1 => by rw [hb]; exact List.mem_append.2 (.inr (List.mem_append.2 (.inl hb1)))
  have hnd := h.nod
  rw [hb] at hnd
  have hnd2 := (List.nodup_append.1 hnd).2.1
  refine ⟨cp, cl, cc, bs1, ⟨hcell 0 _ rfl, hcell 1 _ rfl, hcell 2 _ rfl, hcell 3 _ rfl, hcell 4 _ rfl⟩, hO, (List.nodup_append.1 hnd2).1, hsub, fun W2 hk => ?_⟩
  have hgb : g ∉ bs1 := fun e => h.ne (hsub g e)
  have hcur2 := (hk.block g (heap_lt hcur) hgb).trans hcur
  have hcell2 : ∀ i, W2.cell? ⟨g, i, none⟩ = W.cell? ⟨g, i, none⟩ := fun i => hk.cell (p := ⟨g, i, none⟩) (heap_lt hcur) hgb
  refine ⟨⟨⟨(hcell2 _).trans (hcell 0 _ rfl), (hcell2 _).trans (hcell 1 _ rfl), (hcell2 _).trans (hcell 2 _ rfl), (hcell2 _).trans (hcell 3 _ rfl), (hcell2 _).trans (hcell 4 _ rfl)⟩, fun i => by simp [World.frozen?, hcur2]⟩, fun v0 v1 v2 v3 v4 => ⟨⟨_, heap_set (heap_set (heap_set (heap_set (heap_set hcur2 _ _) _ _) _ _) _ _) _ _⟩, fun i u hi hu => ?_, ⟨bs0 ++ bs1, bs2, by rw [hb, List.append_assoc], ?_⟩, h.nod, h.ne⟩⟩
  · rw [set5_cell _ _ _ _ _ (by omega), hcell2]
    exact h.cells i u (by omega) hu
  · have e2 : xs.drop ((k + 1) * 5) = xs' := by
      have : xs.drop ((k + 1) * 5) = (xs.drop (k * 5)).drop 5 := by rw [List.drop_drop]; congr 1; omega
      rw [this, hxs]
      rfl
    rw [e2]
    refine hrest.same fun b hb2 => ?_
    obtain ⟨c, hh⟩ := hrest.shape b hb2
    have hl := heap_lt hh
    have h1 := hk.block b hl (fun e => (List.nodup_append.1 hnd2).2.2 b e b hb2 rfl)
    have h2 := (set5_keeps W2 g (k * 5) v0 v1 v2 v3 v4).block b (Nat.lt_of_lt_of_le hl hk.size) (fun e => h.ne (by rw [hb, ← e]; exact List.mem_append.2 (.inr (List.mem_append.2 (.inr hb2)))))
    exact h2.trans h1
end Go.Proofs.Ytccoihmibkpedaa
