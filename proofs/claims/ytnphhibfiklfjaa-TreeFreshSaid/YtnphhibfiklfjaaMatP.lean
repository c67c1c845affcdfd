/-
  Patterns of trees, in plain Lean: variables, which patterns may be, what fits, what is filled, what is found.
-/
import Derived.Test.YtnphhibfiklfjaaPkB

import Derived.Test.YtnphhibfiklfjaaPkC

set_option linter.unusedVariables false

set_option linter.unusedSimpArgs false

namespace Go.Proofs.Ytnphhibfiklfjaa

open Go.RowKit

abbrev anyK : ByteArray := ⟨#[97, 110, 121]⟩
/-- A variable's name; none: the node is none. -/
def varF (k : ByteArray) : Option ByteArray := if kindB k.data.toList = true ∧ (cutB k).1 = anyK then some (cutB k).2.1 else none
def rightF (x : Nd) : Bool := decide (x.c.len = 0) && ((decide (x.n = 0 ∨ x.n = 1) && decide (x.t.size = 0)) || (decide (x.n = 2) && kindB x.t.data.toList))
/-- Is a tree as a variable's number and text say? -/
def likeF (n : Int) (t : ByteArray) (y : Nd) : Bool := decide (n = 0) || (decide (n = 1) && decide (y.c.len = 0)) || (decide (n = 2) && decide (y.k = t))
namespace Fo

/-- All nodes, each ahead of its kids. -/
def all : Fo → List Nd
  | nil => []
  | cons k n t c r => ⟨k, n, t, c⟩ :: (c.all ++ r.all)
theorem all_len (f : Fo) : f.all.length = f.nodes := by
  induction f with
  | nil => rfl
  | cons k n t c r hc hr => simp [all, nodes, hc, hr]
end Fo

def Nd.all (x : Nd) : List Nd := x :: x.c.all
/-- Going through a list as long as f says yes. -/
def vis (f : List Nd → Nd → Bool) : List Nd → List Nd → List Nd × Bool
  | l, [] => (l, true)
  | l, x :: xs => if f l x then vis f (l ++ [x]) xs else (l ++ [x], false)
theorem vis_append (f : List Nd → Nd → Bool) (l a b : List Nd) : vis f l (a ++ b) = if (vis f l a).2 then vis f (vis f l a).1 b else vis f l a := by
  induction a generalizing l with
  | nil => simp [vis]
  | cons x a ih =>
    simp only [List.cons_append, vis]
    split
    · exact ih _
    · simp
theorem vis_true {f : List Nd → Nd → Bool} {l a : List Nd} (h : (vis f l a).2 = true) : (vis f l a).1 = l ++ a := by
  induction a generalizing l with
  | nil => simp [vis]
  | cons x a ih =>
    simp only [vis] at h ⊢
    split at h
    · rename_i hx
      rw [if_pos hx, ih h]; simp
    · simp at h
theorem vis_snoc {f : List Nd → Nd → Bool} {l : List Nd} {x : Nd} (h : (vis f [] l).2 = true) : (vis f [] (l ++ [x])).2 = f l x := by
  rw [vis_append, if_pos h, vis_true h]
  simp only [List.nil_append, vis]
  split
  · rename_i hx; simp [hx]
  · rename_i hx; simp only [Bool.not_eq_true] at hx; simp [hx]
theorem vis_all (f : List Nd → Nd → Bool) (h : ∀ l x, f l x = true) (l a : List Nd) : vis f l a = (l ++ a, true) := by
  induction a generalizing l with
  | nil => simp [vis]
  | cons x a ih => simp [vis, h, ih]

/-! What is known of the variables: their names, each once, in order, with number and text. -/

abbrev Note := ByteArray × Int × ByteArray
def nget (l : List Note) (nm : ByteArray) : Option (Int × ByteArray) := (l.find? (fun e => decide (e.1 = nm))).map (·.2)
def nadd (acc : List Note) (x : Nd) : List Note :=
  match varF x.k with
  | none => acc
  | some nm => if (nget acc nm).isSome then acc else acc ++ [(nm, x.n, x.t)]
def nts (l : List Nd) : List Note := l.foldl nadd []
theorem nts_snoc (l : List Nd) (x : Nd) : nts (l ++ [x]) = nadd (nts l) x := by simp [nts, List.foldl_append]
def fMay (l : List Nd) (x : Nd) : Bool :=
  match varF x.k with
  | none => true
  | some nm => rightF x && (match nget (nts l) nm with
    | none => true
    | some e => decide (e = (x.n, x.t)))
/-- P24.1. -/
def pmayF (x : Nd) : Int := if mayF x = 0 then (if (vis fMay [] x.all).2 then 0 else 41) else mayF x
def namesF (x : Nd) : List ByteArray := if pmayF x = 0 then (nts x.all).map (·.1) else []

/-! What fits. -/

abbrev Bind := ByteArray × Nd
def bget (l : List Bind) (nm : ByteArray) : Option Nd := (l.find? (fun e => decide (e.1 = nm))).map (·.2)
noncomputable def eqN (x y : Nd) : Bool := @decide (x = y) (Classical.propDecidable _)
noncomputable def bindF (bs : List Bind) (nm : ByteArray) (n : Int) (t : ByteArray) (y : Nd) : List Bind × Bool :=
  if likeF n t y then (match bget bs nm with
    | some z => (bs, eqN z y)
    | none => (bs ++ [(nm, y)], true)) else (bs, false)
noncomputable def fitFo : Fo → Fo → List Bind → List Bind × Bool
  | .cons k n t c r, .cons k' n' t' c' r', bs =>
    let q := match varF k with
      | some nm => bindF bs nm n t ⟨k', n', t', c'⟩
      | none => if k = k' ∧ n = n' ∧ t = t' ∧ c.len = c'.len then fitFo c c' bs else (bs, false)
    if q.2 then fitFo r r' q.1 else (q.1, false)
  | _, _, bs => (bs, true)
noncomputable def fit1 (k : ByteArray) (n : Int) (t : ByteArray) (c : Fo) (y : Nd) (bs : List Bind) : List Bind × Bool :=
  match varF k with
  | some nm => bindF bs nm n t y
  | none => if k = y.k ∧ n = y.n ∧ t = y.t ∧ c.len = y.c.len then fitFo c y.c bs else (bs, false)
theorem fitFo_cons {k n t c r k' n' t' c' r'} {bs : List Bind} : fitFo (.cons k n t c r) (.cons k' n' t' c' r') bs = if (fit1 k n t c ⟨k', n', t', c'⟩ bs).2 then fitFo r r' (fit1 k n t c ⟨k', n', t', c'⟩ bs).1 else ((fit1 k n t c ⟨k', n', t', c'⟩ bs).1, false) := by
  simp only [fitFo, fit1]
/-- P24.2. -/
noncomputable def fitsF (p t : Nd) : Option (List Bind) := if pmayF p = 0 ∧ mayF t = 0 ∧ (fit1 p.k p.n p.t p.c t []).2 = true then some (fit1 p.k p.n p.t p.c t []).1 else none

/-! What is filled. -/

namespace Fo

def app : Fo → Fo → Fo
  | nil, g => g
  | cons k n t c r, g => .cons k n t c (r.app g)
end Fo

/-- A pattern with trees in the places of its variables (none: the empty tree). -/
def fillN (bs : List Bind) (k : ByteArray) (n : Int) (t : ByteArray) (c : Fo) : Nd :=
  match varF k with
  | some nm => (bget bs nm).getD ⟨⟨#[]⟩, 0, ⟨#[]⟩, .nil⟩
  | none => ⟨k, n, t, c⟩
def fillFo (bs : List Bind) : Fo → Fo
  | .nil => .nil
  | .cons k n t c r =>
    match varF k with
    | some nm => let y := (bget bs nm).getD ⟨⟨#[]⟩, 0, ⟨#[]⟩, .nil⟩; .cons y.k y.n y.t y.c (fillFo bs r)
    | none => .cons k n t (fillFo bs c) (fillFo bs r)
def fill1 (bs : List Bind) (x : Nd) : Nd :=
  match varF x.k with
  | some nm => (bget bs nm).getD ⟨⟨#[]⟩, 0, ⟨#[]⟩, .nil⟩
  | none => ⟨x.k, x.n, x.t, fillFo bs x.c⟩
theorem fillFo_cons (bs : List Bind) {k n t c r} : fillFo bs (.cons k n t c r) = .cons (fill1 bs ⟨k, n, t, c⟩).k (fill1 bs ⟨k, n, t, c⟩).n (fill1 bs ⟨k, n, t, c⟩).t (fill1 bs ⟨k, n, t, c⟩).c (fillFo bs r) := by
  simp only [fillFo, fill1]
  split <;> rfl
/-- Names that may be, trees that may be, no name twice. -/
def argsF : List Bind → List Bind → Bool
  | _, [] => true
  | acc, e :: r => wordB e.1.data.toList && decide (mayF e.2 = 0) && !(bget acc e.1).isSome && argsF (acc ++ [e]) r
def wrongF (bs : List Bind) (l : List Note) : Int := if l.all (fun e => (bget bs e.1).isSome) then (if l.all (fun e => match bget bs e.1 with | some y => likeF e.2.1 e.2.2 y | none => true) then 0 else 41) else 3
def fillF (p : Nd) (bs : List Bind) : Nd × Int :=
  if pmayF p = 0 then (if argsF [] bs then (if wrongF bs (nts p.all) = 0 then (if (fill1 bs p).small then (fill1 bs p, 0) else (zeroNd, 2)) else (zeroNd, wrongF bs (nts p.all))) else (zeroNd, 1)) else (zeroNd, pmayF p)
/-- P24.4: the paths at which a pattern fits. -/
noncomputable def findF (p t : Nd) : List (List Int) := if pmayF p = 0 ∧ mayF t = 0 then ((pre [] t).filter (fun e => (fit1 p.k p.n p.t p.c e.2 []).2)).map (·.1) else []
end Go.Proofs.Ytnphhibfiklfjaa
