/-
  PROVED: for every pattern, every tree and every list of bounds, espalierlaw24.MatchApart returns true and leaves its arguments as they were.
  CONDITIONS: none beyond the row's own.
-/
import Derived.Test.YtccoihmibkpedaaRow

import Derived.Test.YtccoihmibkpedaaPkF

import Derived.Test.YtccoihmibkpedaaPkR

set_option linter.unusedVariables false

namespace Go.Proofs.Ytccoihmibkpedaa

open Go.ChangeShapes Go.WideShapes Go.ChangeAt Go.RowKit

set_option maxRecDepth 100000 in
theorem matchApart_lifted (os : Os) (started : os.Started) (H : Type) (enc : TypeId × Value → H) :
    ReturnsInHanded {} Try.checked os 5 .any (Rows.matchApartSpec.pre6 enc Try.prog Try.f5 Rows.matchApartRow.domain false) (Rows.matchApartSpec.post enc Try.prog Try.f5 false true false false) := by
  refine returnsInHanded_of_change_sized (C := Try.checked) Try.own started (by kernel_rfl) Try.func5
    (ChangeSpec.witness6 (enc := enc) (C := Try.checked) false ⟨#[], #[.agg #[.string ByteArray.empty, .int .i64 0, .string ByteArray.empty, .slice none 0 0], .agg #[.string ByteArray.empty, .int .i64 0, .string ByteArray.empty, .slice none 0 0], .slice none 0 0], []⟩ 8 (by kernel_rfl) (by kernel_rfl) (by kernel_rfl) (by kernel_rfl)) ?_
  intro W base args ds gs before hval0 hW hcnd hsz _
  have hval : ∀ (j : Nat) t v, Try.f5.params[j]? = some t → args[j]? = some v → Value.okWide Try.prog W .any base t v := hval0
  have hW' := hW
  obtain ⟨p, q, hA0, hV, rfl, hfz, hnd⟩ := hW
  have hA : DataW.TrodAll enc Try.prog W 0 (fun _ => true) true Try.f5.params.toList args.toList ds p := hA0
  have hsz : (DataW.weightsEach Try.prog (Try.f5.params.toList ++ Rows.matchApartSpec.plain.varTypes Try.prog) (ds ++ gs)).all (· ≤ reachBytes) = true := hsz
  rw [Try.params5] at hA hval hsz
  obtain ⟨v0, v1, v2, d0, d1, d2, p0, p1, p2, hargs, rfl, rfl, h0, h1, h2⟩ := trodAll_three hA
  obtain rfl : args = #[v0, v1, v2] := by cases args; simp_all
  obtain ⟨rfl, rfl⟩ := trodVars_none hV
  have hr : ∀ (j : Nat) d, [d0, d1, d2][j]? = some d → j < 2 → Reach Try.prog 26 d := fun j d hd hj n hn => by
    have hd' : ([d0, d1, d2] ++ [])[j]? = some d := by simpa using hd
    have := List.all_eq_true.1 hsz n (DataW.weights_mem_each (j := j) (t := 26) (by rcases (show j = 0 ∨ j = 1 by omega) with rfl | rfl <;> rfl) hd' n hn)
    exact of_decide_eq_true this
  have hr2 : Reach Try.prog 27 d2 := fun n hn => by
    have := List.all_eq_true.1 hsz n (DataW.weights_mem_each (j := 2) (t := 27) rfl (show ([d0, d1, d2] ++ [])[2]? = some d2 from rfl) n hn)
    exact of_decide_eq_true this
  have k0 := h0
  have k1 := h1
  have k2 := h2
  have lt0 : ∀ x ∈ p0, x.block < W.heap.size := by obtain ⟨m, hm⟩ := k0; exact DataW.trod_lt m _ _ _ hm
  have lt1 : ∀ x ∈ p1, x.block < W.heap.size := by obtain ⟨m, hm⟩ := k1; exact DataW.trod_lt m _ _ _ hm
  have lt2 : ∀ x ∈ p2, x.block < W.heap.size := by obtain ⟨m, hm⟩ := k2; exact DataW.trod_lt m _ _ _ hm
  obtain ⟨x, cp, cl, cc, rfl, ht⟩ := open_tree (hval 0 26 v0 rfl rfl) h0 (hr 0 d0 rfl (by omega))
  obtain ⟨u, up, ul, uc, rfl, hu⟩ := open_tree (hval 1 26 v1 rfl rfl) h1 (hr 1 d1 rfl (by omega))
  obtain ⟨fuel, hf⟩ := h2
  obtain ⟨bs, sp, sl, sc, he, hbs, hl, hc⟩ := read_bnds hf hr2
  obtain ⟨sp', sl', sc', rfl⟩ := okWide_slice Try.underlying27 (hval 2 27 v2 rfl rfl)
  have he : [Value.slice sp' sl' sc'] = [.slice sp sl sc] := he
  simp only [List.cons.injEq, Value.slice.injEq, and_true] at he
  obtain ⟨rfl, rfl, rfl⟩ := he
  clear hA0 hval0
  refine (matchApart_any x u bs cp up sp' cl cc ul uc sl' sc' _ _ _ W ht hu hbs hl hc).mono fun e W' ⟨he, hk⟩ => ?_
  subst he
  have bel : Below W.heap.size W W' := hk.below (fun _ h => h.elim) (Nat.le_refl _)
  exact ⟨_, rfl, _, _, _, [], _, [], hW', trodAll_mk1 (shut_bool Try.underlying4 _), (trodAll_mk3 (Below.trod Try.laidOut (by kernel_rfl) (of_decide_eq_true (by kernel_rfl)) k0 bel lt0) (Below.trod Try.laidOut (by kernel_rfl) (of_decide_eq_true (by kernel_rfl)) k1 bel lt1) (Below.trod Try.laidOut (by kernel_rfl) (of_decide_eq_true (by kernel_rfl)) k2 bel lt2)), rfl, bel.frame _, fun h => by cases h⟩

theorem matchApart_holds : Rows.MatchApartSaid :=
  OpenClaim.holds_of_wide 5 Try.f5 rfl rfl rfl rfl rfl rfl rfl ⟨rfl, rfl, rfl, rfl, rfl⟩ rfl rfl rfl rfl rfl (by kernel_rfl) Try.func5 (by kernel_rfl)
    (of_decide_eq_true (by kernel_rfl)) (by unfold Func.isWrapper; first | (rw [if_pos (by decide +kernel)]; kernel_rfl) | (rw [if_neg (by decide +kernel)]; exact ⟨rfl, rfl⟩))
    (fun os started H enc _ => matchApart_lifted os started H enc)
#print axioms matchApart_holds

end Go.Proofs.Ytccoihmibkpedaa
