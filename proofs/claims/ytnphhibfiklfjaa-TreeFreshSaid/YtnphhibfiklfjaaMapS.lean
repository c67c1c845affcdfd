/-
  Maps from texts to values of any kind, in memory: read as functions.
-/
import Derived.Test.YtnphhibfiklfjaaPkA

import Derived.Test.YtnphhibfiklfjaaProg

import Derived.WalkKit

import Derived.Maps.Own

import Derived.Maps.OwnSet

import Derived.Maps.Views

set_option linter.unusedVariables false

set_option linter.unusedSimpArgs false

namespace Go.Proofs.Ytnphhibfiklfjaa

open Go.RowKit Go.Maps

abbrev keyS (k : ByteArray) : Lit := .string k.data.toList
theorem keyS_inj {a b : ByteArray} (h : keyS a = keyS b) : a = b := by
  simp only [keyS, Lit.string.injEq, Array.toList_inj] at h
  cases a; cases b; simp_all
def anyElem (v : Value) : Option (DataW Value × List MemPlace) := some (.held v, [])
/-- The map in block b tells M of each text. -/
def MapAt (W : World) (b : Nat) (M : ByteArray → Option Value) (n : Nat) : Prop :=
  ∃ D : DataW Value, W.ownsMap Try.prog 9 anyElem b n D ∧ IsMap D ∧ (∀ nm, has D (keyS nm) = (M nm).isSome) ∧ ∀ nm v, M nm = some v → ∀ z, D.atKey (keyS nm) z = .held v
def noM : ByteArray → Option Value := fun _ => none
def putM (M : ByteArray → Option Value) (k : ByteArray) (v : Value) : ByteArray → Option Value := fun x => if x = k then some v else M x
theorem MapAt.made (w : World) : MapAt (w.alloc (.map #[] 0)) w.heap.size noM 0 :=
  ⟨.map [], World.ownsMap_made w _ _ _, ⟨[], rfl⟩, fun nm => rfl, fun nm v h => by simp [noM] at h⟩
theorem MapAt.lt {W : World} {b n : Nat} {M : ByteArray → Option Value} (h : MapAt W b M n) : b < W.heap.size := by
  obtain ⟨D, h1, _⟩ := h; exact h1.lt
theorem MapAt.same {W W1 : World} {b n : Nat} {M : ByteArray → Option Value} (h : MapAt W b M n) (hb : W1.heap[b]? = W.heap[b]?) : MapAt W1 b M n := by
  obtain ⟨D, ⟨es, c, h1, h2⟩, r⟩ := h
  exact ⟨D, ⟨es, c, hb.trans h1, h2⟩, r⟩
theorem MapAt.keeps {W W1 : World} {S : Nat → Prop} {b n : Nat} {M : ByteArray → Option Value} (h : MapAt W b M n) (hk : Keeps S W W1) (hb : ¬ S b) : MapAt W1 b M n := h.same (hk.block b h.lt hb)
theorem MapAt.more {W : World} {b n n' : Nat} {M : ByteArray → Option Value} (h : MapAt W b M n) (hn : n ≤ n') : MapAt W b M n' := by
  obtain ⟨D, h1, r⟩ := h
  exact ⟨D, h1.mono hn, r⟩
theorem keyOfS {nm : ByteArray} (hs : nm.size ≤ 140737488351232) : keyOf Try.prog 9 (.string nm) = some (keyS nm) := WideMaps.keyOf_string_mk Try.underlying9 (by simp only [maxLen]; omega)
theorem MapAt.look {W : World} {b n : Nat} {M : ByteArray → Option Value} (h : MapAt W b M n) {t e : TypeId} (ht : Try.prog.underlying t = some (.map 9 e)) {z : Value} (hz : (zeroValue e).run Try.prog W = .ok z W) {nm : ByteArray} (hs : nm.size ≤ 140737488351232) :
    (Instr.lookup t (.map (some b)) (.string nm) true).run Try.prog W = .ok (.tuple #[(M nm).getD z, .bool (M nm).isSome]) W ∧ (Instr.lookup t (.map (some b)) (.string nm) false).run Try.prog W = .ok ((M nm).getD z) W := by
  obtain ⟨D, h1, h2, h3, h4⟩ := h
  obtain ⟨v, ps, hr, hv⟩ := h1.look_ok (string_keyed Try.underlying9) ht hz (zd := .held z) (zp := []) rfl (keyOfS hs)
  obtain ⟨v', ps', hr', hv'⟩ := h1.lookup (string_keyed Try.underlying9) ht hz (zd := .held z) (zp := []) rfl (keyOfS hs)
  have key : D.atKey (keyS nm) (.held z) = .held ((M nm).getD z) := by
    cases hm : M nm with
    | none =>
      have := h3 nm
      rw [hm] at this
      rw [atKey_of_not_has this]; rfl
    | some u => rw [h4 nm u hm]; rfl
  have e1 : v = (M nm).getD z := by
    simp only [anyElem, key, Option.some.injEq, Prod.mk.injEq] at hv
    injection hv.1
  have e2 : v' = (M nm).getD z := by
    simp only [anyElem, key, Option.some.injEq, Prod.mk.injEq] at hv'
    injection hv'.1
  rw [← e1, ← h3 nm]
  exact ⟨hr, by rw [hr', e2, e1]⟩
theorem MapAt.put {w' : World} {b n : Nat} {M : ByteArray → Option Value} {k : ByteArray} {v : Value} (h : ∃ D : DataW Value, IsMap D ∧ (∀ nm, has D (keyS nm) = (M nm).isSome) ∧ (∀ nm v, M nm = some v → ∀ z, D.atKey (keyS nm) z = .held v) ∧ w'.ownsMap Try.prog 9 anyElem b (n + 1) (D.put (keyS k) (.held v))) : MapAt w' b (putM M k v) (n + 1) := by
  obtain ⟨D, h2, h3, h4, h1⟩ := h
  have hkl : WideAt.IsKeyLit (keyS k) := by simp [WideAt.IsKeyLit]
  refine ⟨_, h1, h2.put _ _, fun nm => ?_, fun nm u hu z => ?_⟩
  · by_cases he : nm = k
    · subst he; rw [has_put_same h2 hkl]; simp [putM]
    · rw [has_put_other (fun e => he (keyS_inj e)), h3 nm]; simp [putM, he]
  · by_cases he : nm = k
    · subst he
      simp only [putM, if_true, Option.some.injEq] at hu
      subst hu
      exact atKey_put_same h2 hkl _ _
    · simp only [putM, he, if_false] at hu
      rw [atKey_put_other (fun e => he (keyS_inj e))]
      exact h4 nm u hu z
/-- 'm[k] = v' in the walk. -/
theorem wpList_mapS {P : Program} (hP : P = Try.prog) (w : World) {ops : Array Oper} {rest : List Oper} {o : Oper} {a : Act} {Q : Exit → Act → World → Prop} (hg : o.guard = none) (m x v : Operand) (t : TypeId) (hop : o.op = Op.mapUpdate t m x v) (e : TypeId) (ht : Try.prog.underlying t = some (.map 9 e)) (b n : Nat) (M : ByteArray → Option Value)
    (hm : a.eval m = .map (some b)) (hown : MapAt w b M n) (hn : n ≤ 17592186044416) (k : ByteArray) (val : Value) (hx : a.eval x = .string k) (hv : a.eval v = val) (hs : k.size ≤ 140737488351232)
    (hK : ∀ w', MapAt w' b (putM M k val) (n + 1) → Keeps (fun c => c = b) w w' → wpList P ops Q rest (a.put o.dst undef) w') : wpList P ops Q (o :: rest) a w := by
  subst hP
  obtain ⟨D, h1, h2, h3, h4⟩ := hown
  refine wpList_mapUpdate_own w hg m x v t hop 9 e (string_keyed Try.underlying9) ht anyElem b n D hm h1 (by simp only [maxLen]; omega) _ _ _ hx hv (keyOfS hs) (.held val) [] rfl ?_
  intro w' r1 r2
  exact hK w' (MapAt.put (k := k) (v := val) ⟨D, h2, h3, h4, r1⟩) ((Keeps.refl (fun c => c = b) w).grown r2 (fun c hc _ => (Option.some.inj hc).symm))
end Go.Proofs.Ytnphhibfiklfjaa
