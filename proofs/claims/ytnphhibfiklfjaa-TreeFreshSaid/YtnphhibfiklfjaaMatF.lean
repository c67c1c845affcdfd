/-
  match.fits: its walk.
-/
import Derived.Test.YtnphhibfiklfjaaPkE

import Derived.StillTailTactics

set_option linter.unusedVariables false

set_option linter.unusedSimpArgs false

namespace Go.Proofs.Ytnphhibfiklfjaa

open Go.RowKit

theorem eqN_self (x : Nd) : eqN x x = true := by simp [eqN]
theorem eqN_true {x y : Nd} : eqN x y = true ↔ x = y := by simp [eqN]
theorem eqN_false {x y : Nd} : eqN x y = false ↔ x ≠ y := by simp [eqN]
theorem eqB_eqN (x y : Nd) : eqB (one x.k x.n x.t x.c) (one y.k y.n y.t y.c) = eqN x y := by
  by_cases h : x = y
  · subst h; rw [eqB_self, eqN_self]
  · rw [eqN_false.2 h, eqB_false.2 (fun e => h (by rw [one_inj] at e; exact Nd.ext' e.1 e.2.1 e.2.2.1 e.2.2.2))]
/-- The kids of a small tree are small. -/
theorem Fo.kid_le {c : Fo} {j : Nat} {k n t s r} (hd : c.drop j = .cons k n t s r) : s.nodes + 1 ≤ c.nodes ∧ s.depth + 1 ≤ c.depth ∧ t.size + s.bytes ≤ c.bytes := by
  induction c generalizing j with
  | nil => rw [Fo.drop_nil] at hd; simp at hd
  | cons k' n' t' s' r' _ ih =>
    cases j with
    | zero =>
      simp only [Fo.drop] at hd
      injection hd with e1 e2 e3 e4 e5
      subst e1 e2 e3 e4 e5
      simp only [Fo.nodes, Fo.depth, Fo.bytes]
      omega
    | succ j =>
      have := ih (j := j) hd
      simp only [Fo.nodes, Fo.depth, Fo.bytes]
      omega
theorem Nd.kid_small {k : ByteArray} {n : Int} {t : ByteArray} {c : Fo} {j : Nat} {k1 n1 t1 s1 r1} (hd : c.drop j = .cons k1 n1 t1 s1 r1) (h : Nd.small ⟨k, n, t, c⟩) : Nd.small ⟨k1, n1, t1, s1⟩ := by
  obtain ⟨h1, h2, h3⟩ := Fo.kid_le hd
  obtain ⟨g1, g2, g3⟩ := h
  simp only [Nd.nodes, Nd.depth, Nd.bytes] at g1 g2 g3
  refine ⟨?_, ?_, ?_⟩
  · simp only [Nd.nodes]; omega
  · simp only [Nd.depth]; omega
  · simp only [Nd.bytes]; omega
/-- A pattern's variables agree, and each is right as to its number. -/
structure PatOK (P : List Nd) : Prop where
  same : ∀ x ∈ P, ∀ y ∈ P, ∀ nm, varF x.k = some nm → varF y.k = some nm → x.n = y.n ∧ x.t = y.t
  num : ∀ x ∈ P, (varF x.k).isSome → x.n = 0 ∨ x.n = 1 ∨ x.n = 2
  leaf : ∀ x ∈ P, (varF x.k).isSome → x.c = .nil
/-- What is bound is as its variables say. -/
def GoodB (P : List Nd) (bs : List Bind) : Prop := ∀ nm y, bget bs nm = some y → ∀ x ∈ P, varF x.k = some nm → likeF x.n x.t y = true
/-- What the map of pointers tells. -/
def KnownJ (A : Nat → Prop) (Mb : Nat) (bs : List Bind) (W : World) : Prop :=
  ∃ M n, MapAt W Mb M n ∧ n ≤ bs.length ∧ (∀ nm, (M nm).isSome = (bget bs nm).isSome) ∧ ∀ nm y, bget bs nm = some y → y.small ∧ ∃ b o cp cl cc, M nm = some (.pointer (some ⟨b, o, none⟩)) ∧ A b ∧ b < W.heap.size ∧ NodeAt W A b o y.k y.n y.t y.c cp cl cc
theorem KnownJ.next {A : Nat → Prop} {Mb : Nat} {bs : List Bind} {W W' : World} (h : KnownJ A Mb bs W) (hk : Keeps (fun _ => False) W W') : KnownJ A Mb bs W' := by
  obtain ⟨M, n, h1, h2, h3, h4⟩ := h
  refine ⟨M, n, h1.keeps hk (fun h => h), h2, h3, fun nm y hy => ?_⟩
  obtain ⟨g0, b, o, cp, cl, cc, g1, g2, g3, g4⟩ := h4 nm y hy
  exact ⟨g0, b, o, cp, cl, cc, g1, g2, Nat.lt_of_lt_of_le g3 hk.size, g4.next hk g3⟩
theorem bget_snoc (bs : List Bind) (nm : ByteArray) (y : Nd) (h : bget bs nm = none) (a : ByteArray) : bget (bs ++ [(nm, y)]) a = if a = nm then some y else bget bs a := by
  unfold bget at h ⊢
  rw [List.find?_append]
  by_cases ha : a = nm
  · subst ha
    rw [if_pos rfl]
    simp only [Option.map_eq_none_iff] at h
    rw [h]
    simp
  · rw [if_neg ha]
    have : (decide (nm = a)) = false := by simpa using fun e => ha e.symm
    simp [List.find?_cons, this]
def FitR (A : Nat → Prop) (P : List Nd) (Mb : Nat) (q : List Bind × Bool) (w : World) (e : Ending) (w' : World) : Prop :=
  e = .returned (.bool q.2) ∧ (q.2 = true → KnownJ A Mb q.1 w' ∧ GoodB P q.1) ∧ Keeps (fun b => b = Mb) w w'
theorem zeroPtr (w : World) : (zeroValue 73).run Try.prog w = .ok (.pointer none) w := by kernel_rfl
theorem bindF_len (bs : List Bind) (nm : ByteArray) (n : Int) (t : ByteArray) (y : Nd) : (bindF bs nm n t y).1.length ≤ bs.length + 1 := by
  unfold bindF
  split
  · split
    · simp
    · simp
  · simp
theorem fitFo_len : ∀ (f g : Fo) (bs : List Bind), (fitFo f g bs).1.length ≤ bs.length + f.nodes
  | .nil, _, bs => by simp [fitFo]
  | .cons k n t c r, .nil, bs => by simp [fitFo]
  | .cons k n t c r, .cons k' n' t' c' r', bs => by
    rw [fitFo_cons]
    have h1 : (fit1 k n t c ⟨k', n', t', c'⟩ bs).1.length ≤ bs.length + c.nodes + 1 := by
      unfold fit1
      split
      · have := bindF_len bs ‹_› n t ⟨k', n', t', c'⟩; omega
      · split
        · have h2 := fitFo_len c c' bs
          show (fitFo c c' bs).1.length ≤ _
          omega
        · simp; omega
    simp only [Fo.nodes]
    split
    · have := fitFo_len r r' (fit1 k n t c ⟨k', n', t', c'⟩ bs).1; omega
    · simp only; omega
theorem fit1_len (k : ByteArray) (n : Int) (t : ByteArray) (c : Fo) (y : Nd) (bs : List Bind) : (fit1 k n t c y bs).1.length ≤ bs.length + c.nodes + 1 := by
  unfold fit1
  split
  · have := bindF_len bs ‹_› n t y; omega
  · split
    · have := fitFo_len c y.c bs; omega
    · simp; omega
end Go.Proofs.Ytnphhibfiklfjaa
