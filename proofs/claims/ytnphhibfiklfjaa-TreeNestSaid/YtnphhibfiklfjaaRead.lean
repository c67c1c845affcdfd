/-
  The row's reading of a tree, turned into a readable tree in memory.
-/
import Derived.Test.YtnphhibfiklfjaaPath
import Derived.Test.YtnphhibfiklfjaaProg
import Derived.SizedLaws
import Derived.Lib.SmallJoins
set_option linter.unusedVariables false
set_option linter.unusedSimpArgs false
namespace Go.Proofs.Ytnphhibfiklfjaa
open Go.RowKit

theorem weightsAll_mem {H : Type} {P : Program} {e : TypeId} : ∀ {ds : List (DataW H)} {d : DataW H}, d ∈ ds → ∀ n ∈ d.weights P e, n ∈ DataW.weightsAll P e ds
  | d0 :: ds, d, hd, n, hn => by
    simp only [DataW.weightsAll, List.mem_append]
    rcases List.mem_cons.1 hd with rfl | h
    · exact .inl hn
    · exact .inr (weightsAll_mem h n hn)
/-- Within reach. -/
def Reach {H : Type} (P : Program) (t : TypeId) (d : DataW H) : Prop := ∀ n ∈ d.weights P t, n ≤ 140737488351232
theorem Reach.elem {H : Type} {P : Program} {t e : TypeId} {elems spare : List (DataW H)} (hu : P.underlying t = some (.slice e)) (h : Reach P t (.slice elems spare)) {d : DataW H} (hd : d ∈ elems) : Reach P e d := fun n hn => h n (by
  simp only [DataW.weights, hu, List.mem_cons, List.mem_append]
  exact .inr (.inl (weightsAll_mem hd n hn)))
theorem Reach.field {H : Type} {P : Program} {t : TypeId} {fs : Array Field} {parts : List (DataW H)} (hu : P.underlying t = some (.struct fs)) (h : Reach P t (.agg parts)) {j : Nat} {f : TypeId} {d : DataW H} (hf : (fs.toList.map (·.type))[j]? = some f) (hd : parts[j]? = some d) : Reach P f d := fun n hn => h n (by
  simp only [DataW.weights, hu]
  exact DataW.weights_mem_each hf hd n hn)
theorem Reach.string {H : Type} {P : Program} {t : TypeId} {s : ByteArray} (h : Reach P t (DataW.lit (H := H) (.string s.data.toList))) : s.size ≤ 140737488351232 := by
  have := h s.data.toList.length (by simp [DataW.weights])
  simpa using this
section
variable {H : Type} {enc : TypeId × Value → H} {w : World} {held : Bool} {sp : Nat → Bool}
/-- A tree's four cells. -/
def IsTree (w : World) (cs : List Value) : Prop := ∃ k n t f cp cl cc, cs = [.string k, .int .i64 n, .string t, .slice cp cl cc] ∧ Tv w (fun b => b < w.heap.size) k t f cp cl cc ∧ (Lit.int .i64 n).wf = true
def IsKids (w : World) (cs : List Value) : Prop := ∃ f cp cl cc, cs = [.slice cp cl cc] ∧ Kids w (fun b => b < w.heap.size) f cp cl ∧ cl ≤ cc ∧ cc ≤ 9223372036854775807
theorem read_both : ∀ n, (∀ cs x, DataW.trod enc Try.prog w 0 sp held n 22 cs = some x → Reach Try.prog 22 x.1 → IsKids w cs) ∧
    (∀ cs x, DataW.trod enc Try.prog w 0 sp held n 24 cs = some x → Reach Try.prog 24 x.1 → IsTree w cs) := by
  intro n
  induction n with
  | zero => exact ⟨fun cs x h => by simp [DataW.trod] at h, fun cs x h => by simp [DataW.trod] at h⟩
  | succ n ih =>
    refine ⟨fun cs x h hr => ?_, fun cs x h hr => ?_⟩
    · have hu : Try.prog.underlying 22 = some (.slice 24) := Try.underlying22
      rcases DataW.trod_slice hu h with ⟨rfl, rfl⟩ | ⟨a, len, cap, elems, rest, m, hm, rfl, rfl, _, hl, hcap, hlen, hel, _, _⟩
      · exact ⟨.nil, none, 0, 0, rfl, rfl, Nat.le_refl _, by omega⟩
      · obtain rfl : n = m := by omega
        have hmax : cap ≤ 9223372036854775807 := by unfold maxLen at hcap; exact hcap
        have h4 : Try.prog.cellsOf 24 = 4 := by kernel_rfl
        rw [h4] at hel
        have one : ∀ i, i < len → ∃ cs', w.cells? 0 (a.add (i * 4)) 4 = some cs' ∧ IsTree w cs' := by
          intro i hi
          have he : i < elems.length := by omega
          have := hel i hi
          rw [List.getElem?_eq_getElem he] at this
          obtain ⟨cs', h1, h2⟩ := Option.bind_eq_some_iff.1 this
          exact ⟨cs', h1, ih.2 cs' _ h2 (hr.elem hu (List.mem_map_of_mem (List.getElem_mem he)))⟩
        have spot : 0 < len → ∃ b o, a = ⟨b, o, none⟩ := by
          intro h0
          obtain ⟨cs', h1, _⟩ := one 0 h0
          have h2 := (World.cells?_some h1).2.2 0 (by omega)
          have h3 : ∃ v, cs'[0]? = some v := by
            have := (World.cells?_some h1).2.1
            exact ⟨_, List.getElem?_eq_getElem (by omega)⟩
          obtain ⟨v, h3⟩ := h3
          rw [h3] at h2
          have hs := World.cell?_spot h2
          obtain ⟨b, o, s⟩ := a
          have : s = none := by simpa [Addr.add] using hs
          exact ⟨b, o, by rw [this]⟩
        by_cases h0 : len = 0
        · subst h0
          exact ⟨.nil, some a, 0, cap, rfl, rfl, Nat.zero_le _, hmax⟩
        · obtain ⟨b, o, rfl⟩ := spot (by omega)
          have all : ∀ j, j ≤ len → ∃ f, Kids w (fun b => b < w.heap.size) f (some ⟨b, o + (len - j) * 4, none⟩) j := by
            intro j
            induction j with
            | zero => exact fun _ => ⟨.nil, rfl⟩
            | succ j ihj =>
              intro hj
              obtain ⟨r, hr'⟩ := ihj (by omega)
              obtain ⟨cs', h1, k, nn, t, f, cp, cl, cc, rfl, htv, _⟩ := one (len - (j + 1)) (by omega)
              have g := (World.cells?_some h1).2.2
              have g0 := g 0 (by omega)
              have g1 := g 1 (by omega)
              have g2 := g 2 (by omega)
              have g3 := g 3 (by omega)
              simp only [WideShapes.add_plain, List.getElem?_cons_zero, List.getElem?_cons_succ, Nat.add_zero] at g0 g1 g2 g3
              refine ⟨.cons k nn t f r, b, o + (len - (j + 1)) * 4, j, cp, cl, cc, rfl, rfl, by omega, World.block_lt_of_cell? w ⟨b, o + (len - (j + 1)) * 4, none⟩ g0, World.block_lt_of_cell? w ⟨b, o + (len - (j + 1)) * 4, none⟩ g0, htv.size, htv.lc, htv.cm, g0, g1, g2, g3, htv.kids, ?_⟩
              rw [show o + (len - (j + 1)) * 4 + 4 = o + (len - j) * 4 by omega]
              exact hr'
          obtain ⟨f, hf⟩ := all len (Nat.le_refl _)
          exact ⟨f, some ⟨b, o, none⟩, len, cap, rfl, by simpa using hf, hl, hmax⟩
    · have hu := Try.underlying24
      obtain ⟨xs, m, hm, rfl, hl, hlen, hf⟩ := DataW.trod_struct hu h
      obtain rfl : n = m := by omega
      have h4 : Try.prog.cellsOf 24 = 4 := by kernel_rfl
      rw [h4] at hl
      have f0 : DataW.trod enc Try.prog w 0 sp held n 9 (List.take (Try.prog.cellsOf 9) (List.drop 0 cs)) = xs[0]? := hf 0 _ rfl
      have f1 : DataW.trod enc Try.prog w 0 sp held n 2 (List.take (Try.prog.cellsOf 2) (List.drop 1 cs)) = xs[1]? := hf 1 _ rfl
      have f2 : DataW.trod enc Try.prog w 0 sp held n 9 (List.take (Try.prog.cellsOf 9) (List.drop 2 cs)) = xs[2]? := hf 2 _ rfl
      have f3 : DataW.trod enc Try.prog w 0 sp held n 22 (List.take (Try.prog.cellsOf 22) (List.drop 3 cs)) = xs[3]? := hf 3 _ rfl
      clear hf
      have g0 := fun (f : TypeId) (d : DataW H) hf' hd' => hr.field (j := 0) (f := f) (d := d) hu hf' hd'
      have g2 := fun (f : TypeId) (d : DataW H) hf' hd' => hr.field (j := 2) (f := f) (d := d) hu hf' hd'
      have g3 := fun (f : TypeId) (d : DataW H) hf' hd' => hr.field (j := 3) (f := f) (d := d) hu hf' hd'
      clear hr hu h
      rw [show Try.prog.cellsOf 9 = 1 by kernel_rfl] at f0 f2
      rw [show Try.prog.cellsOf 2 = 1 by kernel_rfl] at f1
      rw [show Try.prog.cellsOf 22 = 1 by kernel_rfl] at f3
      obtain ⟨c0, c1, c2, c3, rfl⟩ : ∃ c0 c1 c2 c3, cs = [c0, c1, c2, c3] := by
        match cs, hl with
        | [c0, c1, c2, c3], _ => exact ⟨c0, c1, c2, c3, rfl⟩
      obtain ⟨y0, y1, y2, y3, rfl⟩ : ∃ y0 y1 y2 y3, xs = [y0, y1, y2, y3] := by
        match xs, hlen with
        | [c0, c1, c2, c3], _ => exact ⟨c0, c1, c2, c3, rfl⟩
      have f0 : DataW.trod enc Try.prog w 0 sp held n 9 [c0] = some y0 := f0
      have f1 : DataW.trod enc Try.prog w 0 sp held n 2 [c1] = some y1 := f1
      have f2 : DataW.trod enc Try.prog w 0 sp held n 9 [c2] = some y2 := f2
      have f3 : DataW.trod enc Try.prog w 0 sp held n 22 [c3] = some y3 := f3
      have us : Try.prog.underlying 9 = some .string := Try.underlying9
      have ui : Try.prog.underlying 2 = some (.int .i64) := Try.underlying2
      obtain ⟨s0, e0, rfl, _⟩ := DataW.trod_string us f0
      obtain ⟨n1, e1, rfl, w1⟩ := DataW.trod_int ui f1
      obtain ⟨s2, e2, rfl, _⟩ := DataW.trod_string us f2
      obtain rfl := (List.cons.inj e0).1
      obtain rfl := (List.cons.inj e1).1
      obtain rfl := (List.cons.inj e2).1
      have r0 := (g0 9 _ rfl rfl).string
      have r2 := (g2 9 _ rfl rfl).string
      obtain ⟨f, cp, cl, cc, e3, hk, hc1, hc2⟩ := ih.1 _ _ f3 (g3 22 _ rfl rfl)
      obtain rfl := (List.cons.inj e3).1
      exact ⟨s0, n1, s2, f, cp, cl, cc, rfl, ⟨⟨r2, r0⟩, hc1, hc2, hk⟩, w1⟩
end
end Go.Proofs.Ytnphhibfiklfjaa
