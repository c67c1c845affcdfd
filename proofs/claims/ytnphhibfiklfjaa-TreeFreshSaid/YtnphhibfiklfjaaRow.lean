/-
  The rows' common part: opening a tree that came in.
-/
import Derived.Test.YtnphhibfiklfjaaRows

import Derived.Test.YtnphhibfiklfjaaPkA

import Derived.ProofKit

import Derived.ChangeOld

import Derived.Below

set_option linter.unusedVariables false

namespace Go.Proofs.Ytnphhibfiklfjaa

open Go.ChangeShapes Go.WideShapes Go.ChangeAt Go.RowKit

theorem Try.own : ownKnob Try.prog.godebug = none := by kernel_rfl
theorem Try.laidOut : laidOutB Try.prog = true := by kernel_rfl

theorem cells_agg (cs : Array Value) : (Value.agg cs).cells = cs := rfl
set_option maxRecDepth 100000 in
/-- A tree that came in. -/
theorem open_tree {H : Type} {enc : TypeId × Value → H} {W : World} {base : Nat} {v : Value} {d : DataW H} {p : List MemPlace} (hv : Value.okWide Try.prog W .any base 24 v)
    (h : DataW.Trod enc Try.prog W 0 (fun _ => true) true 24 v d p) (hr : Reach Try.prog 24 d) :
    ∃ (x : Nd) (cp : Option Addr) (cl cc : Nat), v = tv x.k x.n x.t cp cl cc ∧ Tv W (fun b => b < W.heap.size) x.k x.t x.c cp cl cc := by
  obtain ⟨cs, rfl, hsz⟩ := okWide_struct Try.underlying24 hv
  obtain ⟨fuel, hf⟩ := h
  obtain ⟨k, n, t, f, cp, cl, cc, he, ht, _⟩ := (read_both fuel).2 _ _ hf hr
  refine ⟨⟨k, n, t, f⟩, cp, cl, cc, ?_, ht⟩
  obtain ⟨l⟩ := cs
  have : l = [.string k, .int .i64 n, .string t, .slice cp cl cc] := he
  rw [this]

end Go.Proofs.Ytnphhibfiklfjaa
