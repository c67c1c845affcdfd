/-
  What (*espalierlaw4.Paths).Whole keeps: every list holds its own marks alone.
-/
import Derived.Test.YtnphhibfiklfjaaLists
set_option linter.unusedVariables false
set_option linter.unusedSimpArgs false
namespace Go.Proofs.Ytnphhibfiklfjaa
open Go.RowKit

abbrev mkT (i : Nat) : Value := .int .i64 (-2 * (i : Int) - 2)
abbrev mkG (i : Nat) : Value := .int .i64 (-2 * (i : Int) - 3)
/-- n marks of the first kind, then the second's. -/
def conts (i n m : Nat) : List Value := List.replicate n (mkT i) ++ List.replicate (m - n) (mkG i)
theorem conts_len {i n m : Nat} (h : n ≤ m) : (conts i n m).length = m := by simp [conts]; omega
theorem conts_snoc {i n m : Nat} (h : n ≤ m) : conts i n (m + 1) = conts i n m ++ [mkG i] := by
  rw [conts, conts, show m + 1 - n = (m - n) + 1 by omega, List.replicate_succ', List.append_assoc]
theorem conts_low {i n m k : Nat} (h : k < n) : (conts i n m)[k]? = some (mkT i) := by
  rw [conts, List.getElem?_append_left (by simpa using h), List.getElem?_replicate, if_pos h]
theorem conts_high {i n m k : Nat} (h : n ≤ k) (hm : k < m) : (conts i n m)[k]? = some (mkG i) := by
  rw [conts, List.getElem?_append_right (by simpa using h), List.getElem?_replicate, if_pos (by simp; omega)]
theorem ownsRow_slice {w : World} {D e s n : Nat} {v : Value} {xs : List Value} (h : w.ownsRow D e s v n xs) : ∃ pp cap, v = .slice pp n cap ∧ n ≤ cap ∧ cap ≤ maxLen ∧ (0 < n → ∃ g, pp = some ⟨g, 0, none⟩) := by
  rcases h.2 with ⟨h1, h2⟩ | ⟨g, cap, cur, h1, _, _, h4, h5, _⟩
  · subst h2; exact ⟨none, 0, h1, Nat.le_refl _, Nat.zero_le _, fun h => by omega⟩
  · exact ⟨_, cap, h1, h4, h5, fun _ => ⟨g, rfl⟩⟩
structure WH (D pb : Nat) (W : World) (L : List PRow) (sz : Int) (lv nv : Value) (vs : List Value) (cs : List (Nat × List Value)) : Prop where
  box : W.heap[pb]? = some (.cells #[lv, nv, .int .i64 sz, .slice none 0 0] 44 (0, 0))
  lists : Lists D 32 3 1 W lv vs cs
  vlen : vs.length = L.length
  lens : W.ownsRow D 3 1 nv L.length (L.map fun r => .int .i64 (r.n : Int))
  ne : ∀ b, Lists.Blk lv vs b → nv.ownBlock ≠ some b
  good : ∀ (i : Nat) (r : PRow) (c : Nat × List Value), L[i]? = some r → cs[i]? = some c → r.n ≤ c.1 ∧ c.2 = conts i r.n c.1
section
variable {D pb : Nat} {W : World} {L : List PRow} {sz : Int} {lv nv : Value}
theorem WH.start (h : PathsAt D W pb L sz lv nv) : WH D pb W L sz lv nv (L.map PRow.val) (L.mapIdx fun i r => (r.n, conts i r.n r.n)) := by
  have hget : ∀ (i : Nat) (v : Value), (L.map PRow.val)[i]? = some v → ∃ r, L[i]? = some r ∧ v = r.val := fun i v hv => by
    rw [List.getElem?_map] at hv
    cases hL : L[i]? with
    | none => rw [hL] at hv; simp at hv
    | some r => rw [hL] at hv; exact ⟨r, rfl, by simpa using hv.symm⟩
  refine ⟨h.box, ⟨by rw [List.length_map]; exact h.row, by simp, fun i v c hv hc => ?_, fun i j v v' b hv hv' hb hb' => ?_⟩, by simp, h.lens, fun b hb => ?_, fun i r c hr hc => ?_⟩
  · obtain ⟨r, hr, rfl⟩ := hget i v hv
    rw [List.getElem?_mapIdx, hr] at hc
    simp only [Option.map_some, Option.some.injEq] at hc
    subst hc
    have h1 := h.rows i r hr
    have h2 : conts i r.n r.n = List.replicate r.n (.int .i64 (-2 * ((i : Int) + 1))) := by
      rw [conts, Nat.sub_self, List.replicate_zero, List.append_nil, mkT, show -2 * (i : Int) - 2 = -2 * ((i : Int) + 1) by omega]
    show W.ownsRow D _ 1 r.val r.n (conts i r.n r.n)
    rw [h2]
    exact ⟨h1.1, h1.2.imp id (fun ⟨g, cap, cur, a, b, c⟩ => ⟨g, cap, cur, a, by
      have e : r.g = g := by have := congrArg Value.ownBlock a; simpa [PRow.val, Value.ownBlock] using this
      rw [← e]; exact h.lo r (List.mem_of_getElem? hr), c⟩)⟩
  · obtain ⟨r, hr, rfl⟩ := hget i v hv
    obtain ⟨r', hr', rfl⟩ := hget j v' hv'
    have e1 : r.g = b := by simpa [PRow.val, Value.ownBlock] using hb
    have e2 : r'.g = b := by simpa [PRow.val, Value.ownBlock] using hb'
    have hi : i < (L.map PRow.g).length := by rw [List.length_map]; exact (List.getElem?_eq_some_iff.1 hr).1
    exact (List.getElem?_inj hi h.apart).1 (by rw [List.getElem?_map, List.getElem?_map, hr, hr', Option.map_some, Option.map_some, e1, e2])
  · rcases hb with hb | ⟨v, hv, hb⟩
    · exact fun e => rows_ne h.lens h.row (by decide) e hb
    · obtain ⟨i, hi⟩ := List.getElem?_of_mem hv
      obtain ⟨r, hr, rfl⟩ := hget i v hi
      have e1 : r.g = b := by simpa [PRow.val, Value.ownBlock] using hb
      rw [← e1]
      exact h.ne r (List.mem_of_getElem? hr)
  · rw [List.getElem?_mapIdx, hr] at hc
    simp only [Option.map_some, Option.some.injEq] at hc
    subst hc
    exact ⟨Nat.le_refl _, rfl⟩
theorem WH.lo {vs cs} (h : WH D pb W L sz lv nv vs cs) {b : Nat} (hb : Lists.Blk lv vs b) : D ≤ b ∧ b < W.heap.size := h.lists.lo hb
theorem WH.keeps {W1 : World} {S : Nat → Prop} {vs cs} (h : WH D pb W L sz lv nv vs cs) (hk : Keeps S W W1) (hpb : ¬ S pb) (hS : ∀ b, S b → b < D ∨ W.heap.size ≤ b) : WH D pb W1 L sz lv nv vs cs :=
  ⟨(hk.block _ (heap_lt h.box) hpb).trans h.box, h.lists.keeps hk (fun b hs hb => by have := h.lo hb; have := hS b hs; omega), h.vlen, ownsRow_same h.lens (fun b hm => by
    have hb : nv.ownBlock = some b := by simpa using hm
    have := h.lens.lt b hb
    exact hk.block b this.2 (fun hs => by have := hS b hs; omega)), h.ne, h.good⟩
/-- One mark more at the i-th. -/
theorem WH.push {w1 : World} {o : Obj} {vs cs} (h : WH D pb W L sz lv nv vs cs) (hpb : pb < D) {i gl cl g' c' : Nat} (hlv : lv = .slice (some ⟨gl, 0, none⟩) L.length cl) {v : Value} {c : Nat × List Value} {r : PRow} (hv : vs[i]? = some v) (hc : cs[i]? = some c) (hr : L[i]? = some r)
    (hg : (W.alloc o).grownBy w1 v.ownBlock) (hrow : w1.ownsRow D 3 1 (.slice (some ⟨g', 0, none⟩) (c.1 + 1) c') (c.1 + 1) (c.2 ++ [mkG i])) (hat : v.ownBlock = some g' ∨ W.heap.size ≤ g') :
    WH D pb (w1.setCell ⟨gl, i, none⟩ (.slice (some ⟨g', 0, none⟩) (c.1 + 1) c')) L sz lv nv (vs.set i (.slice (some ⟨g', 0, none⟩) (c.1 + 1) c')) (cs.set i (c.1 + 1, c.2 ++ [mkG i])) ∧ Keeps (fun b => D ≤ b) W (w1.setCell ⟨gl, i, none⟩ (.slice (some ⟨g', 0, none⟩) (c.1 + 1) c')) := by
  have hk : Keeps (fun b => v.ownBlock = some b) W w1 := ((Keeps.refl _ W).alloc o).grown hg (fun k hk _ => hk)
  obtain ⟨h1, h2, h3⟩ := h.lists.put (by decide) (by rw [h.vlen]; exact hlv) hv hc hk (c' := (c.1 + 1, c.2 ++ [mkG i])) hrow (fun b hb => by
    have e : g' = b := by simpa [Value.ownBlock] using hb
    rw [← e]; exact hat)
  have hkD : Keeps (fun b => D ≤ b) W (w1.setCell ⟨gl, i, none⟩ (.slice (some ⟨g', 0, none⟩) (c.1 + 1) c')) := h2.mono fun b hb _ => (h.lo hb).1
  have hil : i < cs.length := (List.getElem?_eq_some_iff.1 hc).1
  refine ⟨⟨(hkD.block pb (heap_lt h.box) (by omega)).trans h.box, h1, by rw [List.length_set]; exact h.vlen, ownsRow_same h.lens (fun b hm => ?_), fun b hb => ?_, fun j r' c2 hr' hc2 => ?_⟩, hkD⟩
  · have hb : nv.ownBlock = some b := by simpa using hm
    exact h2.block b (h.lens.lt b hb).2 (fun hh => h.ne b hh hb)
  · rcases h3 b hb with h4 | h4
    · exact h.ne b h4
    · exact fun e => by have := (h.lens.lt b e).2; omega
  · by_cases hj : j = i
    · subst hj
      rw [List.getElem?_set_self hil] at hc2
      simp only [Option.some.injEq] at hc2
      subst hc2
      rw [hr] at hr'
      simp only [Option.some.injEq] at hr'
      subst hr'
      have := h.good j r c hr hc
      exact ⟨by show r.n ≤ c.1 + 1; omega, by show c.2 ++ [mkG j] = conts j r.n (c.1 + 1); rw [conts_snoc this.1, ← this.2]⟩
    · rw [List.getElem?_set_ne (fun e => hj e.symm)] at hc2
      exact h.good j r' c2 hr' hc2
end
end Go.Proofs.Ytnphhibfiklfjaa
