/-
  PROVED: for every pattern, every two trees and every path, espalierlaw24.MatchOpen returns true and leaves its arguments as they were.
  CONDITIONS: none beyond the row's own.
-/
import Derived.Test.YtccoihmibkpedaaRow

import Derived.Test.YtccoihmibkpedaaPathRead

import Derived.Carry

import Derived.Test.YtccoihmibkpedaaMOpen

set_option linter.unusedVariables false

namespace Go.Proofs.Ytccoihmibkpedaa

open Go.ChangeShapes Go.WideShapes Go.ChangeAt Go.RowKit

set_option maxRecDepth 100000 in
theorem matchOpen_lifted (os : Os) (started : os.Started) (H : Type) (enc : TypeId × Value → H) :
    ReturnsInHanded {} Try.checked os 7 .any (Rows.matchOpenSpec.pre6 enc Try.prog Try.f7 Rows.matchOpenRow.domain false) (Rows.matchOpenSpec.post enc Try.prog Try.f7 false true false false) := by
  refine returnsInHanded_of_change_sized (C := Try.checked) Try.own started (by kernel_rfl) Try.func7
    (ChangeSpec.witness6 (enc := enc) (C := Try.checked) false ⟨#[], #[.agg #[.string ByteArray.empty, .int .i64 0, .string ByteArray.empty, .slice none 0 0], .agg #[.string ByteArray.empty, .int .i64 0, .string ByteArray.empty, .slice none 0 0], .agg #[.string ByteArray.empty, .int .i64 0, .string ByteArray.empty, .slice none 0 0], .slice none 0 0], []⟩ 8 (by kernel_rfl) (by kernel_rfl) (by kernel_rfl) (by kernel_rfl)) ?_
  intro W base args ds gs before hval0 hW hcnd hsz _
  have hval : ∀ (j : Nat) t v, Try.f7.params[j]? = some t → args[j]? = some v → Value.okWide Try.prog W .any base t v := hval0
  have hW' := hW
  obtain ⟨p, q, hA0, hV, rfl, hfz, hnd⟩ := hW
  have hA : DataW.TrodAll enc Try.prog W 0 (fun _ => true) true Try.f7.params.toList args.toList ds p := hA0
  have hsz : (DataW.weightsEach Try.prog (Try.f7.params.toList ++ Rows.matchOpenSpec.plain.varTypes Try.prog) (ds ++ gs)).all (· ≤ reachBytes) = true := hsz
  rw [Try.params7] at hA hval hsz
  obtain ⟨v0, v1, v2, v3, d0, d1, d2, d3, p0, p1, p2, p3, hargs, rfl, rfl, h0, h1, h2, h3⟩ := trodAll_four hA
  obtain rfl : args = #[v0, v1, v2, v3] := by cases args; simp_all
  obtain ⟨rfl, rfl⟩ := trodVars_none hV
  have hr : ∀ (j : Nat) d, [d0, d1, d2, d3][j]? = some d → j < 3 → Reach Try.prog 26 d := fun j d hd hj n hn => by
    have hd' : ([d0, d1, d2, d3] ++ [])[j]? = some d := by simpa using hd
    have := List.all_eq_true.1 hsz n (DataW.weights_mem_each (j := j) (t := 26) (by rcases (show j = 0 ∨ j = 1 ∨ j = 2 by omega) with rfl | rfl | rfl <;> rfl) hd' n hn)
    exact of_decide_eq_true this
  have hr3 : Reach Try.prog 50 d3 := fun n hn => by
    have := List.all_eq_true.1 hsz n (DataW.weights_mem_each (j := 3) (t := 50) rfl (show ([d0, d1, d2, d3] ++ [])[3]? = some d3 from rfl) n hn)
    exact of_decide_eq_true this
  have k0 := h0
  have k1 := h1
  have k2 := h2
  have k3 := h3
  have lt0 : ∀ x ∈ p0, x.block < W.heap.size := by obtain ⟨m, hm⟩ := k0; exact DataW.trod_lt m _ _ _ hm
  have lt1 : ∀ x ∈ p1, x.block < W.heap.size := by obtain ⟨m, hm⟩ := k1; exact DataW.trod_lt m _ _ _ hm
  have lt2 : ∀ x ∈ p2, x.block < W.heap.size := by obtain ⟨m, hm⟩ := k2; exact DataW.trod_lt m _ _ _ hm
  have lt3 : ∀ x ∈ p3, x.block < W.heap.size := by obtain ⟨m, hm⟩ := k3; exact DataW.trod_lt m _ _ _ hm
  obtain ⟨x, cp, cl, cc, rfl, ht⟩ := open_tree (hval 0 26 v0 rfl rfl) h0 (hr 0 d0 rfl (by omega))
  obtain ⟨u, up, ul, uc, rfl, hu⟩ := open_tree (hval 1 26 v1 rfl rfl) h1 (hr 1 d1 rfl (by omega))
  obtain ⟨z, zp, zl, zc, rfl, hz⟩ := open_tree (hval 2 26 v2 rfl rfl) h2 (hr 2 d2 rfl (by omega))
  obtain ⟨fuel, hf⟩ := h3
  obtain ⟨path, sp, sl, sc, he, hps, _⟩ := read_path hf hr3
  obtain ⟨sp', sl', sc', rfl⟩ := okWide_slice Try.underlying50 (hval 3 50 v3 rfl rfl)
  have he : [Value.slice sp' sl' sc'] = [.slice sp sl sc] := he
  simp only [List.cons.injEq, Value.slice.injEq, and_true] at he
  obtain ⟨rfl, rfl, rfl⟩ := he
  clear hA0 hval0
  refine (matchOpen_any x u z path cp up zp sp' cl cc ul uc zl zc sl' sc' _ _ _ _ W ht hu hz hps).mono fun e W' ⟨he, hk⟩ => ?_
  subst he
  have bel : Below W.heap.size W W' := hk.below (fun _ h => h.elim) (Nat.le_refl _)
  exact ⟨_, rfl, _, _, _, [], _, [], hW', trodAll_mk1 (shut_bool Try.underlying4 _), (trodAll_mk4 (Below.trod Try.laidOut (by kernel_rfl) (of_decide_eq_true (by kernel_rfl)) k0 bel lt0) (Below.trod Try.laidOut (by kernel_rfl) (of_decide_eq_true (by kernel_rfl)) k1 bel lt1) (Below.trod Try.laidOut (by kernel_rfl) (of_decide_eq_true (by kernel_rfl)) k2 bel lt2) (Below.trod Try.laidOut (by kernel_rfl) (of_decide_eq_true (by kernel_rfl)) k3 bel lt3)), rfl, bel.frame _, fun h => by cases h⟩

theorem matchOpen_holds : Rows.MatchOpenSaid :=
  OpenClaim.holds_of_wide 7 Try.f7 rfl rfl rfl rfl rfl rfl rfl ⟨rfl, rfl, rfl, rfl, rfl⟩ rfl rfl rfl rfl rfl (by kernel_rfl) Try.func7 (by kernel_rfl)
    (of_decide_eq_true (by kernel_rfl)) (by unfold Func.isWrapper; first | (rw [if_pos (by decide +kernel)]; kernel_rfl) | (rw [if_neg (by decide +kernel)]; exact ⟨rfl, rfl⟩))
    (fun os started H enc _ => matchOpen_lifted os started H enc)
#print axioms matchOpen_holds

end Go.Proofs.Ytccoihmibkpedaa
