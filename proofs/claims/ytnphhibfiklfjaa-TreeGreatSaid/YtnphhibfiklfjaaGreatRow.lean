/-
  PROVED: for every tree, espalierlaw4.TreeGreat returns true and leaves its argument as it was.
  CONDITIONS: none beyond the row's own.
-/
import Derived.Test.YtnphhibfiklfjaaRows
import Derived.Test.YtnphhibfiklfjaaGreat
import Derived.Test.YtnphhibfiklfjaaRead
import Derived.ProofKit
import Derived.ChangeOld
import Derived.Below
set_option linter.unusedVariables false
namespace Go.Proofs.Ytnphhibfiklfjaa
open Go.ChangeShapes Go.WideShapes Go.ChangeAt Go.RowKit

theorem Try.own : ownKnob Try.prog.godebug = none := by kernel_rfl
theorem Try.laidOut : laidOutB Try.prog = true := by kernel_rfl

theorem cells_agg (cs : Array Value) : (Value.agg cs).cells = cs := rfl
set_option maxRecDepth 100000 in
/-- A tree that came in. -/
theorem open_tree {H : Type} {enc : TypeId × Value → H} {W : World} {base : Nat} {v : Value} {d : DataW H} {p : List MemPlace} (hv : Value.okWide Try.prog W .any base 24 v)
    (h : DataW.Trod enc Try.prog W 0 (fun _ => true) true 24 v d p) (hr : Reach Try.prog 24 d) :
    ∃ (x : Nd) (cp : Option Addr) (cl cc : Nat), v = tv x.k x.n x.t cp cl cc ∧ Tv W (fun b => b < W.heap.size) x.k x.t x.c cp cl cc := by
  obtain ⟨cs, rfl, hsz⟩ := okWide_struct Try.underlying24 hv
  obtain ⟨fuel, hf⟩ := h
  obtain ⟨k, n, t, f, cp, cl, cc, he, ht, _⟩ := (read_both fuel).2 _ _ hf hr
  refine ⟨⟨k, n, t, f⟩, cp, cl, cc, ?_, ht⟩
  obtain ⟨l⟩ := cs
  have : l = [.string k, .int .i64 n, .string t, .slice cp cl cc] := he
  rw [this]

theorem treeGreat_any (x : Nd) (cp : Option Addr) (cl cc : Nat) (A : Nat → Prop) (w : World) (h : Tv w A x.k x.t x.c cp cl cc) :
    Calls Try.prog 6 #[tv x.k x.n x.t cp cl cc] w fun e w' => e = .returned (.bool true) ∧ Keeps (fun _ => False) w w' := by
  by_cases hs : x.small
  · exact treeGreat_small x cp cl cc A w h hs
  · exact treeGreat_big x cp cl cc A w h hs

set_option maxRecDepth 100000 in
theorem treeGreat_lifted (os : Os) (started : os.Started) (H : Type) (enc : TypeId × Value → H) :
    ReturnsInHanded {} Try.checked os 6 .any (Rows.treeGreatSpec.pre6 enc Try.prog Try.f6 Rows.treeGreatRow.domain false) (Rows.treeGreatSpec.post enc Try.prog Try.f6 false true false false) := by
  refine returnsInHanded_of_change_sized (C := Try.checked) Try.own started (by kernel_rfl) Try.func6
    (ChangeSpec.witness6 (enc := enc) (C := Try.checked) false ⟨#[], #[.agg #[.string ByteArray.empty, .int .i64 0, .string ByteArray.empty, .slice none 0 0]], []⟩ 8 (by kernel_rfl) (by kernel_rfl) (by kernel_rfl) (by kernel_rfl)) ?_
  intro W base args ds gs before hval0 hW hcnd hsz _
  have hval : ∀ (j : Nat) t v, Try.f6.params[j]? = some t → args[j]? = some v → Value.okWide Try.prog W .any base t v := hval0
  have hW' := hW
  obtain ⟨p, q, hA0, hV, rfl, hfz, hnd⟩ := hW
  have hA : DataW.TrodAll enc Try.prog W 0 (fun _ => true) true Try.f6.params.toList args.toList ds p := hA0
  have hsz : (DataW.weightsEach Try.prog (Try.f6.params.toList ++ Rows.treeGreatSpec.plain.varTypes Try.prog) (ds ++ gs)).all (· ≤ reachBytes) = true := hsz
  rw [Try.params6] at hA hval hsz
  obtain ⟨v0, d0, hargs, rfl, h0⟩ := trodAll_one hA
  obtain rfl : args = #[v0] := by cases args; simp_all
  obtain ⟨rfl, rfl⟩ := trodVars_none hV
  have hr : Reach Try.prog 24 d0 := fun n hn => by
    have := List.all_eq_true.1 hsz n (DataW.weights_mem_each (j := 0) rfl rfl n hn)
    exact of_decide_eq_true this
  have k0 := h0
  have lt0 : ∀ x ∈ p, x.block < W.heap.size := by obtain ⟨m, hm⟩ := k0; exact DataW.trod_lt m _ _ _ hm
  obtain ⟨x, cp, cl, cc, rfl, ht⟩ := open_tree (hval 0 24 v0 rfl rfl) h0 hr
  clear hA0 hval0
  refine (treeGreat_any x cp cl cc _ W ht).mono fun e W' ⟨he, hk⟩ => ?_
  subst he
  have bel : Below W.heap.size W W' := hk.below (fun _ h => h.elim) (Nat.le_refl _)
  exact ⟨_, rfl, _, _, _, [], _, [], hW', trodAll_mk1 (shut_bool Try.underlying4 _), (trodAll_mk1 (Below.trod Try.laidOut (by kernel_rfl) (of_decide_eq_true (by kernel_rfl)) k0 bel lt0)), rfl, bel.frame _, fun h => by cases h⟩

theorem treeGreat_holds : Rows.TreeGreatSaid :=
  OpenClaim.holds_of_wide 6 Try.f6 rfl rfl rfl rfl rfl rfl rfl ⟨rfl, rfl, rfl, rfl, rfl⟩ rfl rfl rfl rfl rfl (by kernel_rfl) Try.func6 (by kernel_rfl)
    (of_decide_eq_true (by kernel_rfl)) (by unfold Func.isWrapper; first | (rw [if_pos (by decide +kernel)]; kernel_rfl) | (rw [if_neg (by decide +kernel)]; exact ⟨rfl, rfl⟩))
    (fun os started H enc _ => treeGreat_lifted os started H enc)
#print axioms treeGreat_holds
end Go.Proofs.Ytnphhibfiklfjaa
