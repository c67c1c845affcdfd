/-
  PROVED: for every two trees and every number, espalierlaw4.TreePaths returns true and leaves its arguments as they were.
  CONDITIONS: none beyond the row's own.
-/
import Derived.Test.YtnphhibfiklfjaaRow
import Derived.Test.YtnphhibfiklfjaaPathsB
set_option linter.unusedVariables false
namespace Go.Proofs.Ytnphhibfiklfjaa
open Go.ChangeShapes Go.WideShapes Go.ChangeAt Go.RowKit

theorem treePaths_any (x u : Nd) (pick : Int) (cp up : Option Addr) (cl cc ul uc : Nat) (A A' : Nat → Prop) (w : World) (h : Tv w A x.k x.t x.c cp cl cc) (h' : Tv w A' u.k u.t u.c up ul uc) (hp : (Lit.int .i64 pick).wf = true) :
    Calls Try.prog 3 #[tv x.k x.n x.t cp cl cc, tv u.k u.n u.t up ul uc, .int .i64 pick] w fun e w' => e = .returned (.bool true) ∧ Keeps (fun _ => False) w w' := by
  by_cases hs : x.small ∧ u.small
  · exact treePaths_small x u pick cp up cl cc ul uc A A' w h h' hp hs.1 hs.2
  · exact treePaths_big x u pick cp up cl cc ul uc A A' w h h' hs

set_option maxRecDepth 100000 in
theorem treePaths_lifted (os : Os) (started : os.Started) (H : Type) (enc : TypeId × Value → H) :
    ReturnsInHanded {} Try.checked os 3 .any (Rows.treePathsSpec.pre6 enc Try.prog Try.f3 Rows.treePathsRow.domain false) (Rows.treePathsSpec.post enc Try.prog Try.f3 false true false false) := by
  refine returnsInHanded_of_change_sized (C := Try.checked) Try.own started (by kernel_rfl) Try.func3
    (ChangeSpec.witness6 (enc := enc) (C := Try.checked) false ⟨#[], #[.agg #[.string ByteArray.empty, .int .i64 0, .string ByteArray.empty, .slice none 0 0], .agg #[.string ByteArray.empty, .int .i64 0, .string ByteArray.empty, .slice none 0 0], .int .i64 0], []⟩ 8 (by kernel_rfl) (by kernel_rfl) (by kernel_rfl) (by kernel_rfl)) ?_
  intro W base args ds gs before hval0 hW hcnd hsz _
  have hval : ∀ (j : Nat) t v, Try.f3.params[j]? = some t → args[j]? = some v → Value.okWide Try.prog W .any base t v := hval0
  have hW' := hW
  obtain ⟨p, q, hA0, hV, rfl, hfz, hnd⟩ := hW
  have hA : DataW.TrodAll enc Try.prog W 0 (fun _ => true) true Try.f3.params.toList args.toList ds p := hA0
  have hsz : (DataW.weightsEach Try.prog (Try.f3.params.toList ++ Rows.treePathsSpec.plain.varTypes Try.prog) (ds ++ gs)).all (· ≤ reachBytes) = true := hsz
  rw [Try.params3] at hA hval hsz
  obtain ⟨v0, v1, v2, d0, d1, d2, p0, p1, p2, hargs, rfl, rfl, h0, h1, h2⟩ := trodAll_three hA
  obtain rfl : args = #[v0, v1, v2] := by cases args; simp_all
  obtain ⟨rfl, rfl⟩ := trodVars_none hV
  have hr : ∀ (j : Nat) d, [d0, d1, d2][j]? = some d → j < 2 → Reach Try.prog 24 d := fun j d hd hj n hn => by
    have hd' : ([d0, d1, d2] ++ [])[j]? = some d := by simpa using hd
    have := List.all_eq_true.1 hsz n (DataW.weights_mem_each (j := j) (t := 24) (by rcases (show j = 0 ∨ j = 1 by omega) with rfl | rfl <;> rfl) hd' n hn)
    exact of_decide_eq_true this
  have k0 := h0
  have k1 := h1
  have lt0 : ∀ x ∈ p0, x.block < W.heap.size := by obtain ⟨m, hm⟩ := k0; exact DataW.trod_lt m _ _ _ hm
  have lt1 : ∀ x ∈ p1, x.block < W.heap.size := by obtain ⟨m, hm⟩ := k1; exact DataW.trod_lt m _ _ _ hm
  obtain ⟨x, cp, cl, cc, rfl, ht⟩ := open_tree (hval 0 24 v0 rfl rfl) h0 (hr 0 d0 rfl (by omega))
  obtain ⟨u, up, ul, uc, rfl, hu⟩ := open_tree (hval 1 24 v1 rfl rfl) h1 (hr 1 d1 rfl (by omega))
  obtain ⟨a, rfl, rfl, rfl, wa⟩ := open_int Try.underlying3 (hval 2 3 v2 rfl rfl) h2
  clear hA0 hval0
  refine (treePaths_any x u a cp up cl cc ul uc _ _ W ht hu wa).mono fun e W' ⟨he, hk⟩ => ?_
  subst he
  have bel : Below W.heap.size W W' := hk.below (fun _ h => h.elim) (Nat.le_refl _)
  exact ⟨_, rfl, _, _, _, [], _, [], hW', trodAll_mk1 (shut_bool Try.underlying4 _), (trodAll_mk3 (Below.trod Try.laidOut (by kernel_rfl) (of_decide_eq_true (by kernel_rfl)) k0 bel lt0) (Below.trod Try.laidOut (by kernel_rfl) (of_decide_eq_true (by kernel_rfl)) k1 bel lt1) (shut_int Try.underlying3 wa)), rfl, bel.frame _, fun h => by cases h⟩

theorem treePaths_holds : Rows.TreePathsSaid :=
  OpenClaim.holds_of_wide 3 Try.f3 rfl rfl rfl rfl rfl rfl rfl ⟨rfl, rfl, rfl, rfl, rfl⟩ rfl rfl rfl rfl rfl (by kernel_rfl) Try.func3 (by kernel_rfl)
    (of_decide_eq_true (by kernel_rfl)) (by unfold Func.isWrapper; first | (rw [if_pos (by decide +kernel)]; kernel_rfl) | (rw [if_neg (by decide +kernel)]; exact ⟨rfl, rfl⟩))
    (fun os started H enc _ => treePaths_lifted os started H enc)
#print axioms treePaths_holds
end Go.Proofs.Ytnphhibfiklfjaa
