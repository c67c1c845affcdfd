/-
  espalierlaw4.TreeFresh: its body's parts; the accounts of its two ranges.
-/
import Derived.Test.YtnphhibfiklfjaaFreshN

import Derived.Test.YtnphhibfiklfjaaQuietR

import Derived.Test.YtnphhibfiklfjaaEachN

import Derived.Test.YtnphhibfiklfjaaAhead

set_option linter.unusedVariables false

set_option linter.unusedSimpArgs false

namespace Go.Proofs.Ytnphhibfiklfjaa

open Go.RowKit

/-- The code from region n on, to the end of its sequence. -/
def fromRegion (n : Nat) : Code → Option Code
  | .seq (.region id ops d) r => if id = n then some (.seq (.region id ops d) r) else fromRegion n r
  | .seq a b => match fromRegion n a with
    | some c => some c
    | none => fromRegion n b
  | .loop c => fromRegion n c
  | .block _ c => fromRegion n c
  | .scope c => fromRegion n c
  | .cond _ a b => match fromRegion n a with
    | some c => some c
    | none => fromRegion n b
  | _ => none
noncomputable def part7 (n : Nat) : Code := (Try.f7.body.bind (fromRegion n)).getD .skip
noncomputable def reg7 (n : Nat) : Code := match part7 n with
  | .seq a _ => a
  | c => c
noncomputable def aft7 (n : Nat) : Code := match part7 n with
  | .seq _ b => b
  | c => c
/-- The rounds' account of the second range: what was there is there, but for the iterator's and the counter. -/
structure FJ (It : Nat → Prop) (W0 : World) (ab : Nat) (v : Int) (B : Nat → Prop) (W : World) : Prop where
  own : ∀ b, b < W0.heap.size → ¬ It b → B b
  keeps : Keeps (fun b => It b ∨ b = ab) W0 W
  at_ : W.heap[ab]? = some (.cells #[.int .i64 v] 3 (0, 0))
theorem FJ.stab {It : Nat → Prop} {W0 : World} {ab : Nat} {v : Int} {B : Nat → Prop} {W W' : World} (hab : ab < W0.heap.size) (hI : ¬ It ab) (h : FJ It W0 ab v B W) (hk : Keeps (fun b => ¬ B b) W W') : FJ It W0 ab v B W' :=
  ⟨h.own, h.keeps.trans' hk (fun b hb hl => by
    by_cases hI : It b
    · exact .inl hI
    · exact absurd (h.own b hl hI) hb), (hk.block _ (heap_lt h.at_) (fun h' => h' (h.own ab hab hI))).trans h.at_⟩
/-- A block of cells: its cells are there, none is frozen. -/
theorem cells_any {W : World} {g n : Nat} {cur : Array Value} {t : TypeId} (h : W.heap[g]? = some (.cells cur t (0, 0))) (hn : n ≤ cur.size) : (∀ i, i < n → ∃ v, W.cell? ⟨g, i, none⟩ = some v) ∧ ∀ i, W.frozen? ⟨g, i, none⟩ = false := by
  refine ⟨fun i hi => ?_, fun i => by simp [World.frozen?, h]⟩
  have hi2 : i < cur.size := by omega
  exact ⟨cur[i], by simp [World.cell?, h, hi2]⟩
theorem cells_setAny {W : World} {g n : Nat} {t : TypeId} (h : ∃ cur, W.heap[g]? = some (.cells cur t (0, 0)) ∧ n ≤ cur.size) (i : Nat) (v : Value) : ∃ cur, (W.setCell ⟨g, i, none⟩ v).heap[g]? = some (.cells cur t (0, 0)) ∧ n ≤ cur.size := by
  obtain ⟨cur, h1, h2⟩ := h
  exact ⟨_, heap_set h1 i v, by simpa using h2⟩
/-- A statement that lays a mark: its ways meet again. -/
theorem wp_cutM {P : Program} {s : Code} {K : Act → World → Prop} {Q' : Exit → Act → World → Prop} {tmps : Array Value} {ds : List Deferred} {w : World} (R : Nat → World → Prop)
    (rest : ∀ D w', R D w' → K { tmps := tmps, defers := markOf D :: ds } w')
    (first : ∀ (J K' : Act → World → Prop), (∀ D w', R D w' → J { tmps := tmps, defers := markOf D :: ds } w') → (∀ a' w', Met J a' w' → K' a' w') → s.wp P (Exit.then K' Q') { tmps := tmps, defers := ds } w) : s.wp P (Exit.then K Q') { tmps := tmps, defers := ds } w :=
  wp_cut (fun a' w' => ∃ D, R D w' ∧ a' = { tmps := tmps, defers := markOf D :: ds }) (fun a' w' ⟨D, h, e⟩ => e ▸ rest D w' h) (fun J K' hJ hK => first J K' (fun D w' h => hJ _ _ ⟨D, h, rfl⟩) hK)
theorem wp_thenN {P : Program} {c : Code} {K1 : Act → World → Prop} {Q2 : Exit → Act → World → Prop} {a : Act} {w : World} (h : c.wp P (Exit.then K1 (Exit.then (fun a w => Q2 .normal a w) Q2)) a w) : c.wp P (Exit.then K1 Q2) a w :=
  wp_mono h (fun e a w h => by
    cases e
    case normal => exact h
    all_goals exact h)
theorem wp_thenN' {P : Program} {c : Code} {Q2 : Exit → Act → World → Prop} {a : Act} {w : World} (h : c.wp P (Exit.then (fun a w => Q2 .normal a w) Q2) a w) : c.wp P Q2 a w :=
  wp_mono h (fun e a w h => by
    cases e
    case normal => exact h
    all_goals exact h)
theorem not_both : ∀ a b : Bool, ¬ (a = true ∧ b = true) → (!(a && b)) = true := by decide
theorem preK_len2 : ∀ (f : Fo) (p : List Int) (i : Nat), ∀ e ∈ preK p i f, e.1.length ≤ p.length + f.nodes := by
  intro f
  induction f with
  | nil => intro p i e he; simp [preK] at he
  | cons k n t c r ihc ihr =>
    intro p i e he
    rw [preK_cons] at he
    simp only [pre, List.cons_append, List.mem_cons, List.mem_append] at he
    simp only [Fo.nodes]
    rcases he with rfl | he | he
    · simp only [List.length_append, List.length_cons, List.length_nil]; omega
    · have := ihc _ _ e he
      simp only [List.length_append, List.length_cons, List.length_nil] at this
      omega
    · have := ihr _ _ e he
      omega
/-- What the iterator tells: few, short paths, small trees. -/
theorem eachL_lite {x y : Nd} {p : List Int} {j : Nat} (h : (eachL x)[j]? = some (p, y)) : p.length ≤ 1024 ∧ y.c.nodes ≤ 1023 := by
  unfold eachL at h
  split at h
  · rename_i hs
    have he := List.mem_of_getElem? h
    have h1 := pre_sub x _ he
    have h2 : y.c.nodes ≤ x.c.nodes := sub_nodes _ _ _ h1
    have h3 := hs.1
    simp only [Nd.nodes] at h3
    refine ⟨?_, by omega⟩
    simp only [pre, List.mem_cons] at he
    rcases he with he | he
    · simp only [Prod.mk.injEq] at he
      rw [he.1]; simp
    · have := preK_len2 _ _ _ _ he
      simp only [List.length_nil] at this
      omega
  · simp at h
/-- The rounds' account of the first range. -/
structure GJ (It : Nat → Prop) (V : World) (kx D1 pb ob D0 : Nat) (Ds : List Nat) (n m q j : Nat) (B : Nat → Prop) (W : World) : Prop where
  own : ∀ b, b < V.heap.size → ¬ It b → B b
  bk : BKI (fun b => CP pb ob D0 Ds D1 b ∧ b ≠ kx ∧ B b) pb (n + 3072 * j) m q W
  keeps : Keeps (CP pb ob D0 Ds D1) V W
  at_ : W.heap[kx]? = some (.cells #[.int .i64 (j : Int)] 3 (0, 0))
theorem GJ.stab {It : Nat → Prop} {V : World} {kx D1 pb ob D0 : Nat} {Ds : List Nat} {n m q j : Nat} {B : Nat → Prop} {W W' : World} (hk : kx < V.heap.size) (hkI : ¬ It kx) (hI : ∀ b, It b → CP pb ob D0 Ds D1 b) (h : GJ It V kx D1 pb ob D0 Ds n m q j B W) (hs : Keeps (fun b => ¬ B b) W W') : GJ It V kx D1 pb ob D0 Ds n m q j B W' :=
  ⟨h.own, h.bk.keeps hs (fun b hb e => hb e.2.2), h.keeps.trans' hs (fun b hb hl => by
    by_cases hi : It b
    · exact hI b hi
    · exact absurd (h.own b hl hi) hb), (hs.block _ (heap_lt h.at_) (fun h' => h' (h.own kx hk hkI))).trans h.at_⟩
end Go.Proofs.Ytnphhibfiklfjaa
