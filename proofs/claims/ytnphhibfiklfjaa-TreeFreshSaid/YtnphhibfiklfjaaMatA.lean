/-
  match.variable, right, allows, each: their walks.
-/
import Derived.Test.YtnphhibfiklfjaaMatP

import Derived.Test.YtnphhibfiklfjaaMapS

set_option linter.unusedVariables false

set_option linter.unusedSimpArgs false

namespace Go.Proofs.Ytnphhibfiklfjaa

open Go.RowKit

theorem varF_some {k nm : ByteArray} (h : varF k = some nm) : kindB k.data.toList = true ∧ (cutB k).1 = anyK ∧ nm = (cutB k).2.1 := by
  unfold varF at h
  split at h
  · rename_i h1; exact ⟨h1.1, h1.2, by simpa using h.symm⟩
  · simp at h
theorem varF_size {k nm : ByteArray} (h : varF k = some nm) (hk : k.size ≤ 140737488351232) : nm.size ≤ 140737488351232 := by
  rw [(varF_some h).2.2]; exact (cutB_size k hk).2
/-- What 'variable' tells. -/
def VarR (k : ByteArray) (w : World) (e : Ending) (w' : World) : Prop := ∃ a, e = .returned (.tuple #[.string a, .bool (varF k).isSome]) ∧ (∀ nm, varF k = some nm → a = nm) ∧ Keeps (fun _ => False) w w'
theorem Fo.all_kid {c : Fo} {j : Nat} {k1 n1 t1 s1 r1} (hd : c.drop j = .cons k1 n1 t1 s1 r1) : ∀ x ∈ Nd.all ⟨k1, n1, t1, s1⟩, x ∈ c.all := by
  induction c generalizing j with
  | nil => rw [Fo.drop_nil] at hd; simp at hd
  | cons k' n' t' s' r' _ ih =>
    intro x hx
    cases j with
    | zero =>
      simp only [Fo.drop] at hd
      injection hd with e1 e2 e3 e4 e5
      subst e1 e2 e3 e4 e5
      simp only [Nd.all, List.mem_cons] at hx
      simp only [Fo.all, List.mem_cons, List.mem_append]
      exact hx.imp_right .inl
    | succ j =>
      have := ih (j := j) hd x hx
      simp only [Fo.all, List.mem_cons, List.mem_append]
      exact .inr (.inr this)
/-- A function that is told each node: f: what it answers; J: what it keeps, in blocks of which S holds. -/
structure Tell (I : Nd → Prop) (A S : Nat → Prop) (J : List Nd → World → Prop) (f : List Nd → Nd → Bool) (g : Nat) (cap : Array Value) : Prop where
  enters : ∀ args w, (callFunc g args).run Try.prog w = .ok (.enter g args) w
  apart : ∀ b, A b → ¬ S b
  calls : ∀ l W b o k n t c cp cl cc, I ⟨k, n, t, c⟩ → l.length < 1024 → (vis f [] l).2 = true → J l W → A b → b < W.heap.size → NodeAt W A b o k n t c cp cl cc →
    Calls Try.prog g (#[.pointer (some ⟨b, o, none⟩)] ++ cap) W fun e W' => e = .returned (.bool (f l ⟨k, n, t, c⟩)) ∧ (f l ⟨k, n, t, c⟩ = true → J (l ++ [⟨k, n, t, c⟩]) W') ∧ Keeps S W W'
def EachT (S : Nat → Prop) (J : List Nd → World → Prop) (f : List Nd → Nd → Bool) (l xs : List Nd) (w : World) (e : Ending) (w' : World) : Prop :=
  e = .returned (.bool (vis f l xs).2) ∧ ((vis f l xs).2 = true → J (l ++ xs) w') ∧ Keeps S w w'
theorem vis_kid {f : List Nd → Nd → Bool} {l : List Nd} {c : Fo} {j : Nat} {k1 n1 t1 s1 r1} (hd : c.drop j = .cons k1 n1 t1 s1 r1) :
    vis f l (c.drop j).all = if (vis f l (Nd.all ⟨k1, n1, t1, s1⟩)).2 then vis f (l ++ Nd.all ⟨k1, n1, t1, s1⟩) (c.drop (j + 1)).all else vis f l (Nd.all ⟨k1, n1, t1, s1⟩) := by
  rw [Fo.drop_step hd, hd]
  have : (Fo.cons k1 n1 t1 s1 r1).all = Nd.all ⟨k1, n1, t1, s1⟩ ++ r1.all := by simp [Fo.all, Nd.all]
  rw [this, vis_append]
  split
  · rename_i h; rw [vis_true h]
  · rfl
end Go.Proofs.Ytnphhibfiklfjaa
