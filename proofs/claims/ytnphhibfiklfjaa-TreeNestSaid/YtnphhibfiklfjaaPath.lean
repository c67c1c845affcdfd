/-
  Paths: lists of numbers in memory, and what lies at a path.
-/
import Derived.Test.YtnphhibfiklfjaaOwn
set_option linter.unusedVariables false
set_option linter.unusedSimpArgs false
namespace Go.Proofs.Ytnphhibfiklfjaa
open Go.RowKit

/-- Whole numbers, one a cell. -/
structure Ints (w : World) (A : Nat → Prop) (xs : List Int) (p : Option Addr) (n : Nat) : Prop where
  len : xs.length = n
  le : n ≤ 9223372036854775807
  cells : 0 < n → ∃ b o, p = some ⟨b, o, none⟩ ∧ A b ∧ b < w.heap.size ∧ ∀ i, i < n → w.cell? ⟨b, o + i, none⟩ = some (.int .i64 (xs.getD i 0))
theorem Ints.keeps {w w1 : World} {A S : Nat → Prop} {xs p n} (h : Ints w A xs p n) (hk : Keeps S w w1) (hA : ∀ b, A b → ¬ S b) : Ints w1 A xs p n :=
  ⟨h.len, h.le, fun hn => by
    obtain ⟨b, o, hp, hb, hl, hc⟩ := h.cells hn
    exact ⟨b, o, hp, hb, Nat.lt_of_lt_of_le hl hk.size, fun i hi => (hk.cell (p := ⟨b, o + i, none⟩) hl (hA b hb)).trans (hc i hi)⟩⟩
theorem Ints.mono {w : World} {A A' : Nat → Prop} {xs p n} (h : Ints w A xs p n) (hA : ∀ b, A b → A' b) : Ints w A' xs p n :=
  ⟨h.len, h.le, fun hn => by
    obtain ⟨b, o, hp, hb, r⟩ := h.cells hn
    exact ⟨b, o, hp, hA b hb, r⟩⟩
theorem Ints.top {w : World} {A : Nat → Prop} {xs p n} (h : Ints w A xs p n) : Ints w (fun b => b < w.heap.size) xs p n :=
  ⟨h.len, h.le, fun hn => by
    obtain ⟨b, o, hp, hb, hl, r⟩ := h.cells hn
    exact ⟨b, o, hp, hl, hl, r⟩⟩
theorem Ints.nil (w : World) (A : Nat → Prop) : Ints w A [] none 0 := ⟨rfl, by omega, fun h => absurd h (by omega)⟩
theorem Ints.at_ {w : World} {A : Nat → Prop} {xs : List Int} {b o n : Nat} (h : Ints w A xs (some ⟨b, o, none⟩) n) {j : Nat} {x : Int} {r : List Int} (hd : xs.drop j = x :: r) : w.cell? ⟨b, o + j, none⟩ = some (.int .i64 x) := by
  have hj : j < n := by
    have := congrArg List.length hd
    have := h.len
    simp at *
    omega
  obtain ⟨b', o', hp, _, _, hc⟩ := h.cells (by omega)
  simp only [Option.some.injEq, Addr.mk.injEq, and_true] at hp
  obtain ⟨rfl, rfl⟩ := hp
  rw [hc j hj]
  have : xs[j]? = some x := by
    have := List.getElem?_drop (xs := xs) (i := j) (j := 0)
    rw [hd] at this
    simpa using this.symm
  simp [List.getD_eq_getElem?_getD, this]
theorem Ints.dropLt {w : World} {A : Nat → Prop} {xs : List Int} {p : Option Addr} {n : Nat} (h : Ints w A xs p n) {j : Nat} (hj : j < n) : ∃ x r, xs.drop j = x :: r ∧ xs.drop (j + 1) = r ∧ ∃ b o, p = some ⟨b, o, none⟩ ∧ A b ∧ b < w.heap.size := by
  have hl := h.len
  obtain ⟨b, o, hp, hb, hbs, _⟩ := h.cells (by omega)
  cases hd : xs.drop j with
  | nil => have := congrArg List.length hd; simp at this; omega
  | cons x r =>
    refine ⟨x, r, rfl, ?_, b, o, hp, hb, hbs⟩
    rw [show j + 1 = j + 1 from rfl, ← List.drop_drop, hd]
    rfl

/-- A tree, as data. -/
structure Nd where
  k : ByteArray
  n : Int
  t : ByteArray
  c : Fo
theorem Nd.ext' {x y : Nd} (h1 : x.k = y.k) (h2 : x.n = y.n) (h3 : x.t = y.t) (h4 : x.c = y.c) : x = y := by cases x; cases y; simp_all
namespace Fo
/-- The i-th. -/
def at? : Fo → Nat → Option Nd
  | nil, _ => none
  | cons k n t c _, 0 => some ⟨k, n, t, c⟩
  | cons _ _ _ _ r, i + 1 => r.at? i
theorem at?_drop {f : Fo} {i : Nat} {k n t c r} (h : drop i f = .cons k n t c r) : f.at? i = some ⟨k, n, t, c⟩ := by
  induction i generalizing f with
  | zero => cases f with
    | nil => simp [drop] at h
    | cons k' n' t' c' r' => simp only [drop] at h; injection h with h1 h2 h3 h4 h5; subst h1 h2 h3 h4; rfl
  | succ i ih => cases f with
    | nil => simp [drop] at h
    | cons k' n' t' c' r' => exact ih h
theorem at?_none {f : Fo} {i : Nat} (h : f.len ≤ i) : f.at? i = none := by
  induction i generalizing f with
  | zero => cases f with
    | nil => rfl
    | cons k n t c r => simp [len] at h
  | succ i ih => cases f with
    | nil => rfl
    | cons k n t c r => exact ih (by simpa [len] using h)
/-- The i-th by a number of Go's. -/
def kid (f : Fo) (i : Int) : Option Nd := if i < 0 then none else f.at? i.toNat
end Fo
/-- What lies at a path. -/
def sub : List Int → Nd → Option Nd
  | [], x => some x
  | i :: r, x => (x.c.kid i).bind (sub r)
/-- The way there, in memory. -/
def Nav (w : World) : List Int → Nat → Nat → Nat → Nat → Prop
  | [], b, o, b', o' => b' = b ∧ o' = o
  | i :: r, b, o, b', o' => ∃ kb ko cl cc, w.cell? ⟨b, o + 3, none⟩ = some (.slice (some ⟨kb, ko, none⟩) cl cc) ∧ 0 ≤ i ∧ i.toNat < cl ∧ Nav w r kb (ko + i.toNat * 4) b' o'
theorem Nav.snoc {w : World} {i : Int} : ∀ {r : List Int} {b o b1 o1 kb ko cl cc : Nat}, Nav w r b o b1 o1 → w.cell? ⟨b1, o1 + 3, none⟩ = some (.slice (some ⟨kb, ko, none⟩) cl cc) → 0 ≤ i → i.toNat < cl → Nav w (r ++ [i]) b o kb (ko + i.toNat * 4)
  | [], b, o, b1, o1, kb, ko, cl, cc, ⟨h1, h2⟩, hc, h0, hl => by subst h1 h2; exact ⟨kb, ko, cl, cc, hc, h0, hl, rfl, rfl⟩
  | x :: r, b, o, b1, o1, kb, ko, cl, cc, ⟨kb', ko', cl', cc', h1, h2, h3, h4⟩, hc, h0, hl => ⟨kb', ko', cl', cc', h1, h2, h3, Nav.snoc h4 hc h0 hl⟩
theorem sub_snoc (i : Int) : ∀ (r : List Int) (x : Nd), sub (r ++ [i]) x = (sub r x).bind fun y => y.c.kid i
  | [], x => by simp [sub, Option.bind]; cases x.c.kid i <;> rfl
  | j :: r, x => by
    simp only [List.cons_append, sub]
    cases x.c.kid j with
    | none => rfl
    | some y => exact sub_snoc i r y
theorem sub_none {r s : List Int} {x : Nd} (h : sub r x = none) : sub (r ++ s) x = none := by
  induction r generalizing x with
  | nil => simp [sub] at h
  | cons i r ih =>
    simp only [List.cons_append, sub] at h ⊢
    cases hk : x.c.kid i with
    | none => rfl
    | some y => rw [hk] at h; exact ih h

end Go.Proofs.Ytnphhibfiklfjaa
