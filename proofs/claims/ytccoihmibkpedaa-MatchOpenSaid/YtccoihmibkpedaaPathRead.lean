/-
  The row's reading of a path.
-/
import Derived.Test.YtccoihmibkpedaaPkA

set_option linter.unusedVariables false

set_option linter.unusedSimpArgs false

namespace Go.Proofs.Ytccoihmibkpedaa

open Go.RowKit

section

variable {H : Type} {enc : TypeId × Value → H} {w : World} {held : Bool} {sp : Nat → Bool}

theorem read_path {n : Nat} {cs : List Value} {x} (h : DataW.trod enc Try.prog w 0 sp held n 50 cs = some x) (hr : Reach Try.prog 50 x.1) :
    ∃ path pp pl pc, cs = [.slice pp pl pc] ∧ Ints w (fun b => b < w.heap.size) path pp pl ∧ pl ≤ pc ∧ pc ≤ 9223372036854775807 ∧ pl ≤ 17592186044416 := by
  have hu : Try.prog.underlying 50 = some (.slice 3) := Try.underlying50
  have ui : Try.prog.underlying 3 = some (.int .i64) := Try.underlying3
  rcases DataW.trod_slice hu h with ⟨rfl, rfl⟩ | ⟨a, len, cap, elems, rest, m, hm, rfl, rfl, _, hl, hcap, hlen, hel, _, _⟩
  · exact ⟨[], none, 0, 0, rfl, Ints.nil _ _, Nat.le_refl _, by omega, by omega⟩
  · have hmax : cap ≤ 9223372036854775807 := by unfold maxLen at hcap; exact hcap
    have h1 : Try.prog.cellsOf 3 = 1 := by kernel_rfl
    have h8 : Try.prog.bytesOf 3 = 8 := by kernel_rfl
    rw [h1] at hel
    have hshort : len ≤ 17592186044416 := by
      have := hr (((elems.map (·.1)).length + (rest.map (·.1)).length) * Try.prog.bytesOf 3) (by simp only [DataW.weights, hu]; exact List.mem_cons_self ..)
      rw [h8, List.length_map] at this
      omega
    have one : ∀ i, i < len → ∃ z, w.cell? (a.add (i * 1)) = some (.int .i64 z) := by
      intro i hi
      have he : i < elems.length := by omega
      have := hel i hi
      rw [List.getElem?_eq_getElem he] at this
      obtain ⟨cs', h2, h3⟩ := Option.bind_eq_some_iff.1 this
      obtain ⟨z, rfl, _⟩ := DataW.trod_int ui h3
      have h4 := (World.cells?_some h2).2.2 0 (by omega)
      exact ⟨z, by simpa [Addr.add] using h4⟩
    by_cases h0 : len = 0
    · subst h0
      exact ⟨[], some a, 0, cap, rfl, ⟨rfl, by omega, fun h => by omega⟩, Nat.zero_le _, hmax, by omega⟩
    · obtain ⟨z0, hz0⟩ := one 0 (by omega)
      have hsp := World.cell?_spot hz0
      obtain ⟨b, o, s⟩ := a
      obtain rfl : s = none := by simpa [Addr.add] using hsp
      have hc : ∀ i, i < len → ∃ z, w.cell? ⟨b, o + i, none⟩ = some (.int .i64 z) := fun i hi => by
        obtain ⟨z, hz⟩ := one i hi
        rw [WideShapes.add_plain, Nat.mul_one] at hz
        exact ⟨z, hz⟩
      obtain ⟨z1, hz1⟩ := hc 0 (by omega)
      let f : Nat → Int := fun i => match w.cell? ⟨b, o + i, none⟩ with | some (.int .i64 z) => z | _ => 0
      refine ⟨(List.range len).map f, some ⟨b, o, none⟩, len, cap, rfl, ⟨by simp, by omega, fun _ => ⟨b, o, rfl, World.block_lt_of_cell? w ⟨b, o + 0, none⟩ hz1, World.block_lt_of_cell? w ⟨b, o + 0, none⟩ hz1, fun i hi => ?_⟩⟩, hl, hmax, hshort⟩
      obtain ⟨z, hz⟩ := hc i hi
      rw [List.getD, List.getElem?_map, List.getElem?_range hi]
      simp only [Option.map_some, Option.getD_some, f, hz]
end

end Go.Proofs.Ytccoihmibkpedaa
