/-
  The row's reading of a list of operations.
-/
import Derived.Test.YtnphhibfiklfjaaPkA

import Derived.Test.YtnphhibfiklfjaaOpAt

set_option linter.unusedVariables false

set_option linter.unusedSimpArgs false

namespace Go.Proofs.Ytnphhibfiklfjaa

open Go.RowKit

section

variable {H : Type} {enc : TypeId × Value → H} {w : World} {held : Bool} {sp : Nat → Bool}

theorem wf_le {n : Nat} {l : List Nat} (h : ∀ x ∈ l, x ≤ 140737488351232) (hn : n ∈ l) : n ≤ 140737488351232 := h n hn
theorem read_ints {n : Nat} {cs : List Value} {x} (h : DataW.trod enc Try.prog w 0 sp held n 32 cs = some x) (hr : Reach Try.prog 32 x.1) :
    ∃ path pp pl pc, cs = [.slice pp pl pc] ∧ Ints w (fun b => b < w.heap.size) path pp pl ∧ pl ≤ pc ∧ pc ≤ 9223372036854775807 ∧ pl ≤ 17592186044416 := by
  have hu : Try.prog.underlying 32 = some (.slice 3) := Try.underlying32
  have ui : Try.prog.underlying 3 = some (.int .i64) := Try.underlying3
  rcases DataW.trod_slice hu h with ⟨rfl, rfl⟩ | ⟨a, len, cap, elems, rest, m, hm, rfl, rfl, _, hl, hcap, hlen, hel, _, _⟩
  · exact ⟨[], none, 0, 0, rfl, Ints.nil _ _, Nat.le_refl _, by omega, by omega⟩
  · have hmax : cap ≤ 9223372036854775807 := by unfold maxLen at hcap; exact hcap
    have h1 : Try.prog.cellsOf 3 = 1 := by kernel_rfl
    have h8 : Try.prog.bytesOf 3 = 8 := by kernel_rfl
    rw [h1] at hel
    have hshort : len ≤ 17592186044416 := by
      have := hr (((elems.map (·.1)).length + (rest.map (·.1)).length) * Try.prog.bytesOf 3) (by simp only [DataW.weights, hu]; exact List.mem_cons_self ..)
      rw [h8, List.length_map] at this
      omega
    have one : ∀ i, i < len → ∃ z, w.cell? (a.add (i * 1)) = some (.int .i64 z) := by
      intro i hi
      have he : i < elems.length := by omega
      have := hel i hi
      rw [List.getElem?_eq_getElem he] at this
      obtain ⟨cs', h2, h3⟩ := Option.bind_eq_some_iff.1 this
      obtain ⟨z, rfl, _⟩ := DataW.trod_int ui h3
      have h4 := (World.cells?_some h2).2.2 0 (by omega)
      exact ⟨z, by simpa [Addr.add] using h4⟩
    by_cases h0 : len = 0
    · subst h0
      exact ⟨[], some a, 0, cap, rfl, ⟨rfl, by omega, fun h => by omega⟩, Nat.zero_le _, hmax, by omega⟩
    · obtain ⟨z0, hz0⟩ := one 0 (by omega)
      have hsp := World.cell?_spot hz0
      obtain ⟨b, o, s⟩ := a
      obtain rfl : s = none := by simpa [Addr.add] using hsp
      have hc : ∀ i, i < len → ∃ z, w.cell? ⟨b, o + i, none⟩ = some (.int .i64 z) := fun i hi => by
        obtain ⟨z, hz⟩ := one i hi
        rw [WideShapes.add_plain, Nat.mul_one] at hz
        exact ⟨z, hz⟩
      obtain ⟨z1, hz1⟩ := hc 0 (by omega)
      let f : Nat → Int := fun i => match w.cell? ⟨b, o + i, none⟩ with | some (.int .i64 z) => z | _ => 0
      refine ⟨(List.range len).map f, some ⟨b, o, none⟩, len, cap, rfl, ⟨by simp, by omega, fun _ => ⟨b, o, rfl, World.block_lt_of_cell? w ⟨b, o + 0, none⟩ hz1, World.block_lt_of_cell? w ⟨b, o + 0, none⟩ hz1, fun i hi => ?_⟩⟩, hl, hmax, hshort⟩
      obtain ⟨z, hz⟩ := hc i hi
      rw [List.getD, List.getElem?_map, List.getElem?_range hi]
      simp only [Option.map_some, Option.getD_some, f, hz]
/-- An operation's eleven cells. -/
def IsOp (w : World) (cs : List Value) : Prop := ∃ kd x u path cp up cl cc ul uc pp pl pc st, cs = (opc kd x u cp up cl cc ul uc pp pl pc st).toList ∧ Tv w (fun b => b < w.heap.size) x.k x.t x.c cp cl cc ∧ Tv w (fun b => b < w.heap.size) u.k u.t u.c up ul uc ∧ Ints w (fun b => b < w.heap.size) path pp pl ∧ pl ≤ pc ∧ pc ≤ 9223372036854775807 ∧ pl ≤ 17592186044416 ∧ (Lit.int .i64 st).wf = true
set_option maxRecDepth 100000 in
theorem read_op {n : Nat} {cs : List Value} {x} (h : DataW.trod enc Try.prog w 0 sp held n OT cs = some x) (hr : Reach Try.prog OT x.1) : IsOp w cs := by
  have hu := Try.underlying51
  obtain ⟨xs, m, hm, rfl, hl, hlen, hf⟩ := DataW.trod_struct hu h
  have h11 : Try.prog.cellsOf OT = 11 := by kernel_rfl
  rw [h11] at hl
  have f0 : DataW.trod enc Try.prog w 0 sp held m 3 (List.take (Try.prog.cellsOf 3) (List.drop 0 cs)) = xs[0]? := hf 0 _ rfl
  have f1 : DataW.trod enc Try.prog w 0 sp held m 24 (List.take (Try.prog.cellsOf 24) (List.drop 1 cs)) = xs[1]? := hf 1 _ rfl
  have f2 : DataW.trod enc Try.prog w 0 sp held m 24 (List.take (Try.prog.cellsOf 24) (List.drop 5 cs)) = xs[2]? := hf 2 _ rfl
  have f3 : DataW.trod enc Try.prog w 0 sp held m 32 (List.take (Try.prog.cellsOf 32) (List.drop 9 cs)) = xs[3]? := hf 3 _ rfl
  have f4 : DataW.trod enc Try.prog w 0 sp held m 3 (List.take (Try.prog.cellsOf 3) (List.drop 10 cs)) = xs[4]? := hf 4 _ rfl
  clear hf
  have g1 := fun (f : TypeId) (d : DataW H) hf' hd' => hr.field (j := 1) (f := f) (d := d) hu hf' hd'
  have g2 := fun (f : TypeId) (d : DataW H) hf' hd' => hr.field (j := 2) (f := f) (d := d) hu hf' hd'
  have g3 := fun (f : TypeId) (d : DataW H) hf' hd' => hr.field (j := 3) (f := f) (d := d) hu hf' hd'
  clear hr hu h
  rw [show Try.prog.cellsOf 3 = 1 by kernel_rfl] at f0 f4
  rw [show Try.prog.cellsOf 24 = 4 by kernel_rfl] at f1 f2
  rw [show Try.prog.cellsOf 32 = 1 by kernel_rfl] at f3
  obtain ⟨c0, c1, c2, c3, c4, c5, c6, c7, c8, c9, c10, rfl⟩ : ∃ c0 c1 c2 c3 c4 c5 c6 c7 c8 c9 c10, cs = [c0, c1, c2, c3, c4, c5, c6, c7, c8, c9, c10] := by
    match cs, hl with
    | [c0, c1, c2, c3, c4, c5, c6, c7, c8, c9, c10], _ => exact ⟨c0, c1, c2, c3, c4, c5, c6, c7, c8, c9, c10, rfl⟩
  obtain ⟨y0, y1, y2, y3, y4, rfl⟩ : ∃ y0 y1 y2 y3 y4, xs = [y0, y1, y2, y3, y4] := by
    match xs, hlen with
    | [c0, c1, c2, c3, c4], _ => exact ⟨c0, c1, c2, c3, c4, rfl⟩
  have f0 : DataW.trod enc Try.prog w 0 sp held m 3 [c0] = some y0 := f0
  have f1 : DataW.trod enc Try.prog w 0 sp held m 24 [c1, c2, c3, c4] = some y1 := f1
  have f2 : DataW.trod enc Try.prog w 0 sp held m 24 [c5, c6, c7, c8] = some y2 := f2
  have f3 : DataW.trod enc Try.prog w 0 sp held m 32 [c9] = some y3 := f3
  have f4 : DataW.trod enc Try.prog w 0 sp held m 3 [c10] = some y4 := f4
  have ui : Try.prog.underlying 3 = some (.int .i64) := Try.underlying3
  obtain ⟨kd, e0, rfl, _⟩ := DataW.trod_int ui f0
  obtain ⟨st, e4, rfl, w4⟩ := DataW.trod_int ui f4
  obtain rfl := (List.cons.inj e0).1
  obtain rfl := (List.cons.inj e4).1
  obtain ⟨k, nn, t, f, cp, cl, cc, e1, ht, _⟩ := (read_both m).2 _ _ f1 (g1 24 _ rfl rfl)
  obtain ⟨k', nn', t', f', up, ul, uc, e2, ht', _⟩ := (read_both m).2 _ _ f2 (g2 24 _ rfl rfl)
  obtain ⟨path, pp, pl, pc, e3, hi, hp1, hp2, hp3⟩ := read_ints f3 (g3 32 _ rfl rfl)
  have e1a := (List.cons.inj e1).2
  have e1b := (List.cons.inj e1a).2
  have e1c := (List.cons.inj e1b).2
  obtain rfl := (List.cons.inj e1).1
  obtain rfl := (List.cons.inj e1a).1
  obtain rfl := (List.cons.inj e1b).1
  obtain rfl := (List.cons.inj e1c).1
  have e2a := (List.cons.inj e2).2
  have e2b := (List.cons.inj e2a).2
  have e2c := (List.cons.inj e2b).2
  obtain rfl := (List.cons.inj e2).1
  obtain rfl := (List.cons.inj e2a).1
  obtain rfl := (List.cons.inj e2b).1
  obtain rfl := (List.cons.inj e2c).1
  obtain rfl := (List.cons.inj e3).1
  exact ⟨kd, ⟨k, nn, t, f⟩, ⟨k', nn', t', f'⟩, path, cp, up, cl, cc, ul, uc, pp, pl, pc, st, rfl, ht, ht', hi, hp1, hp2, hp3, w4⟩
theorem read_ops {n : Nat} {cs : List Value} {x} (h : DataW.trod enc Try.prog w 0 sp held n 49 cs = some x) (hr : Reach Try.prog 49 x.1) :
    ∃ sp sl sc, cs = [.slice sp sl sc] ∧ Ops w sp sl ∧ sl ≤ sc ∧ sc ≤ 9223372036854775807 := by
  have hu : Try.prog.underlying 49 = some (.slice OT) := Try.underlying49
  rcases DataW.trod_slice hu h with ⟨rfl, rfl⟩ | ⟨a, len, cap, elems, rest, m, hm, rfl, rfl, _, hl, hcap, hlen, hel, _, _⟩
  · exact ⟨none, 0, 0, rfl, fun i hi => by omega, Nat.le_refl _, by omega⟩
  · have hmax : cap ≤ 9223372036854775807 := by unfold maxLen at hcap; exact hcap
    have h11 : Try.prog.cellsOf OT = 11 := by kernel_rfl
    rw [h11] at hel
    refine ⟨some a, len, cap, rfl, fun i hi => ?_, hl, hmax⟩
    have he : i < elems.length := by omega
    have := hel i hi
    rw [List.getElem?_eq_getElem he] at this
    obtain ⟨cs', h1, h2⟩ := Option.bind_eq_some_iff.1 this
    obtain ⟨kd, x, u, path, cp, up, cl, cc, ul, uc, pp, pl, pc, st, rfl, ht, ht', hi', hp1, hp2, hp3, w4⟩ := read_op h2 (hr.elem hu (List.mem_map_of_mem (List.getElem_mem he)))
    have g := (World.cells?_some h1).2.2
    have g0 := g 0 (by omega)
    have hsp0 : a.spot = none := by
      have he0 : 0 < elems.length := by omega
      have h0 := hel 0 (by omega)
      rw [List.getElem?_eq_getElem he0] at h0
      obtain ⟨cs0, k1, _⟩ := Option.bind_eq_some_iff.1 h0
      have k2 := (World.cells?_some k1).2.2 0 (by omega)
      have k3 : ∃ v, cs0[0]? = some v := by
        have := (World.cells?_some k1).2.1
        exact ⟨_, List.getElem?_eq_getElem (by omega)⟩
      obtain ⟨v, k3⟩ := k3
      rw [k3] at k2
      have := World.cell?_spot k2
      simpa [Addr.add] using this
    obtain ⟨b, o, s⟩ := a
    obtain rfl : s = none := hsp0
    rw [WideShapes.add_plain, WideShapes.add_plain] at g0
    refine ⟨b, o, rfl, World.block_lt_of_cell? w _ g0, kd, x, u, path, cp, up, cl, cc, ul, uc, pp, pl, pc, st, ?_⟩
    · have q : ∀ k v, (opc kd x u cp up cl cc ul uc pp pl pc st).toList[k]? = some v → k < 11 → w.cell? ⟨b, o + i * 11 + k, none⟩ = some v := fun k v hv hk => by
        have := g k hk
        rw [hv, WideShapes.add_plain, WideShapes.add_plain] at this
        exact this
      exact ⟨q 0 _ rfl (by omega), q 1 _ rfl (by omega), q 2 _ rfl (by omega), q 3 _ rfl (by omega), q 4 _ rfl (by omega), q 5 _ rfl (by omega), q 6 _ rfl (by omega), q 7 _ rfl (by omega), q 8 _ rfl (by omega), q 9 _ rfl (by omega), q 10 _ rfl (by omega), ht, ht', hi', hp1, hp2, hp3, w4⟩
end

end Go.Proofs.Ytnphhibfiklfjaa
