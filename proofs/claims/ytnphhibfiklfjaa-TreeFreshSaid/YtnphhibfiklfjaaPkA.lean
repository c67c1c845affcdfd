/-
  Merged texts: XFo, XOwn, XPath, XRead, XSignP, XWlk, XWlk2, XRange, XPutM.
-/
import Derived.WalkKit

import Derived.Deep.Draws

import Derived.OwnWalk

import Derived.Maps.AppendAt

import Derived.Deep.AppendLies

import Derived.Test.YtnphhibfiklfjaaProg

import Derived.SizedLaws

import Derived.Lib.SmallJoins

import Derived.Lib.Bytealg

import Derived.RangeFuncNested

import Derived.RangeFuncBound

import Derived.RangeFuncCalls

import Derived.RangeFuncLeaves

import Derived.Shelf.Abstract

import Derived.Shelf.RegionOpen

import Derived.OwnWalkIn

import Derived.TacticsInMore

import Derived.LoopNIn

import Derived.LoopIn

set_option linter.unusedVariables false

set_option linter.unusedSimpArgs false

/-!
  Plain trees as data (forests: first child, next sibling), how they lie in memory, and frames. No program in sight.
-/
namespace Go.Proofs.Ytnphhibfiklfjaa

open Go.RowKit

/-- A list of plain trees: the first one's kind, number, text, kids; then the rest. -/
inductive Fo where
  | nil
  | cons (k : ByteArray) (n : Int) (t : ByteArray) (c r : Fo)

namespace Fo

def len : Fo → Nat
  | nil => 0
  | cons _ _ _ _ r => r.len + 1
def nodes : Fo → Nat
  | nil => 0
  | cons _ _ _ c r => c.nodes + r.nodes + 1
def drop : Nat → Fo → Fo
  | 0, f => f
  | _ + 1, nil => nil
  | i + 1, cons _ _ _ _ r => r.drop i
theorem drop_nil (i : Nat) : drop i nil = nil := by cases i <;> rfl
theorem drop_add (i j : Nat) (f : Fo) : drop (i + j) f = drop j (drop i f) := by
  induction i generalizing f with
  | zero => simp [drop]
  | succ i ih => cases f with
    | nil => simp [drop_nil]
    | cons k n t c r => rw [Nat.succ_add]; exact ih r
theorem len_drop (i : Nat) (f : Fo) : (drop i f).len = f.len - i := by
  induction i generalizing f with
  | zero => rfl
  | succ i ih => cases f with
    | nil => simp [drop_nil, len]
    | cons k n t c r => simp only [drop, len, ih]; omega
theorem drop_lt (i : Nat) (f : Fo) (h : i < f.len) : ∃ k n t c r, drop i f = cons k n t c r := by
  induction i generalizing f with
  | zero => cases f with
    | nil => simp [len] at h
    | cons k n t c r => exact ⟨k, n, t, c, r, rfl⟩
  | succ i ih => cases f with
    | nil => simp [len] at h
    | cons k n t c r => exact ih r (by simpa [len] using h)
theorem drop_step {i : Nat} {f : Fo} {k n t c r} (h : drop i f = cons k n t c r) : drop (i + 1) f = r := by
  rw [drop_add, h]; rfl
theorem drop_len_le {i : Nat} {f : Fo} (h : f.len ≤ i) : drop i f = nil := by
  have : (drop i f).len = 0 := by rw [len_drop]; omega
  cases hd : drop i f with
  | nil => rfl
  | cons k n t c r => rw [hd] at this; simp [len] at this
theorem nodes_drop (i : Nat) (f : Fo) : (drop i f).nodes ≤ f.nodes := by
  induction i generalizing f with
  | zero => exact Nat.le_refl _
  | succ i ih => cases f with
    | nil => simp [drop_nil]
    | cons k n t c r => exact Nat.le_trans (ih r) (by simp [nodes]; omega)
end Fo

/-- What may change is in S; all else that was there is as it was. -/
structure Keeps (S : Nat → Prop) (w w' : World) : Prop where
  os : w'.os = w.os
  tape : w'.tape = w.tape
  output : w'.output = w.output
  size : w.heap.size ≤ w'.heap.size
  block : ∀ k, k < w.heap.size → ¬ S k → w'.heap[k]? = w.heap[k]?
namespace Keeps

variable {S S' : Nat → Prop} {w w1 w2 : World}

theorem refl (S : Nat → Prop) (w : World) : Keeps S w w := ⟨rfl, rfl, rfl, Nat.le_refl _, fun _ _ _ => rfl⟩
theorem trans' (h : Keeps S w w1) (k : Keeps S' w1 w2) (hs : ∀ b, S' b → b < w.heap.size → S b) : Keeps S w w2 :=
  ⟨k.os.trans h.os, k.tape.trans h.tape, k.output.trans h.output, Nat.le_trans h.size k.size, fun b hb hn => (k.block b (Nat.lt_of_lt_of_le hb h.size) (fun h' => hn (hs b h' hb))).trans (h.block b hb hn)⟩
theorem trans (h : Keeps S w w1) (k : Keeps S w1 w2) : Keeps S w w2 := h.trans' k fun _ h _ => h
theorem mono (h : Keeps S w w1) (hs : ∀ b, S b → b < w.heap.size → S' b) : Keeps S' w w1 :=
  ⟨h.os, h.tape, h.output, h.size, fun b hb hn => h.block b hb (fun h' => hn (hs b h' hb))⟩
theorem of_below (h : Below w.heap.size w w1) : Keeps S w w1 := ⟨h.os, h.tape, h.output, h.size, fun k hk _ => h.block k hk⟩
theorem below {B : Nat} (h : Keeps S w w1) (hs : ∀ b, S b → B ≤ b) (hB : B ≤ w.heap.size) : Below B w w1 :=
  ⟨h.os, h.tape, h.output, h.size, fun k hk => h.block k (by omega) (fun h' => by have := hs k h'; omega)⟩
theorem alloc (h : Keeps S w w1) (o : Obj) : Keeps S w (w1.alloc o) :=
  h.trans' (S' := fun _ => False) ⟨rfl, rfl, rfl, by simp, fun k hk _ => Below.heap_alloc _ _ _ hk⟩ (fun _ h => h.elim)
theorem drew (h : Keeps S w w1) : Keeps S w w1.drew := ⟨h.os, h.tape, h.output, h.size, h.block⟩
theorem drewN (h : Keeps S w w1) (n : Nat) : Keeps S w (w1.drewN n) := ⟨h.os, h.tape, h.output, h.size, h.block⟩
theorem setCell (h : Keeps S w w1) {p : Addr} (hp : p.block < w.heap.size → S p.block) (v : Value) : Keeps S w (w1.setCell p v) :=
  h.trans' (S' := fun k => k = p.block) ⟨rfl, rfl, rfl, by simp [World.setCell], fun _ _ hn => Below.heap_setCell _ _ _ _ hn⟩ (fun b hb hl => by subst hb; exact hp hl)
theorem grown (h : Keeps S w w1) {row : Option Nat} (hg : w1.grownBy w2 row) (hr : ∀ k, row = some k → k < w.heap.size → S k) : Keeps S w w2 :=
  h.trans' (S' := fun k => row = some k) ⟨hg.os, hg.tape, hg.output, hg.size, fun k hk hn => hg.block k hk (fun e => hn e.symm)⟩ (fun b hb hl => hr b hb hl)
theorem cell (h : Keeps S w w1) {p : Addr} (hp : p.block < w.heap.size) (hn : ¬ S p.block) : w1.cell? p = w.cell? p := World.cell?_of_block (w := w) (h.block _ hp hn)
theorem frozen (h : Keeps S w w1) {p : Addr} (hp : p.block < w.heap.size) (hn : ¬ S p.block) : w1.frozen? p = w.frozen? p := World.frozen?_of_block (w := w) (h.block _ hp hn)
end Keeps

/-- A kind and a text that memory can hold. -/
abbrev szok (k t : ByteArray) : Prop := t.size ≤ 140737488351232 ∧ k.size ≤ 140737488351232
/-- The trees f lie at p, len of them, in blocks of which A holds (and all their kids). -/
def Kids (w : World) (A : Nat → Prop) : Fo → Option Addr → Nat → Prop
  | .nil, _, len => len = 0
  | .cons k n t c r, p, len => ∃ b o m cp cl cc, p = some ⟨b, o, none⟩ ∧ len = m + 1 ∧ len ≤ 9223372036854775807 ∧ A b ∧ b < w.heap.size ∧ szok k t ∧ cl ≤ cc ∧ cc ≤ 9223372036854775807 ∧
      w.cell? ⟨b, o, none⟩ = some (.string k) ∧ w.cell? ⟨b, o + 1, none⟩ = some (.int .i64 n) ∧ w.cell? ⟨b, o + 2, none⟩ = some (.string t) ∧ w.cell? ⟨b, o + 3, none⟩ = some (.slice cp cl cc) ∧
      Kids w A c cp cl ∧ Kids w A r (some ⟨b, o + 4, none⟩) m
theorem Kids.keeps {w w1 : World} {A S : Nat → Prop} (hk : Keeps S w w1) (hA : ∀ b, A b → ¬ S b) : ∀ {f : Fo} {p : Option Addr} {len : Nat}, Kids w A f p len → Kids w1 A f p len
  | .nil, _, _, h => h
  | .cons _ _ _ _ _, _, _, ⟨b, o, m, cp, cl, cc, hp, hl, hlm, hb, hbs, ht, hcl, hcc, h0, h1, h2, h3, hc, hr⟩ =>
    ⟨b, o, m, cp, cl, cc, hp, hl, hlm, hb, Nat.lt_of_lt_of_le hbs hk.size, ht, hcl, hcc, (hk.cell (p := ⟨b, o, none⟩) hbs (hA b hb)).trans h0, (hk.cell (p := ⟨b, o + 1, none⟩) hbs (hA b hb)).trans h1, (hk.cell (p := ⟨b, o + 2, none⟩) hbs (hA b hb)).trans h2, (hk.cell (p := ⟨b, o + 3, none⟩) hbs (hA b hb)).trans h3, Kids.keeps hk hA hc, Kids.keeps hk hA hr⟩
theorem Kids.drewN {w : World} {A : Nat → Prop} {f : Fo} {p : Option Addr} {len : Nat} (h : Kids w A f p len) (m : Nat) : Kids (w.drewN m) A f p len := h.keeps (S := fun _ => False) ((Keeps.refl _ w).drewN m) (fun _ _ h => h)
theorem Kids.mono {w : World} {A A' : Nat → Prop} (hA : ∀ b, A b → A' b) : ∀ {f : Fo} {p : Option Addr} {len : Nat}, Kids w A f p len → Kids w A' f p len
  | .nil, _, _, h => h
  | .cons _ _ _ _ _, _, _, ⟨b, o, m, cp, cl, cc, hp, hl, hlm, hb, hbs, ht, hcl, hcc, h0, h1, h2, h3, hc, hr⟩ =>
    ⟨b, o, m, cp, cl, cc, hp, hl, hlm, hA b hb, hbs, ht, hcl, hcc, h0, h1, h2, h3, Kids.mono hA hc, Kids.mono hA hr⟩
theorem Kids.len {w : World} {A : Nat → Prop} : ∀ {f : Fo} {p : Option Addr} {len : Nat}, Kids w A f p len → f.len = len
  | .nil, _, _, h => h.symm
  | .cons _ _ _ _ _, _, _, ⟨_, _, _, _, _, _, _, hl, _, _, _, _, _, _, _, _, _, _, _, hr⟩ => by rw [hl, Fo.len, Kids.len hr]
/-- From the i-th on. -/
theorem Kids.drop {w : World} {A : Nat → Prop} {f : Fo} {b o len : Nat} (h : Kids w A f (some ⟨b, o, none⟩) len) (i : Nat) (hi : i ≤ len) : Kids w A (f.drop i) (some ⟨b, o + i * 4, none⟩) (len - i) := by
  induction i generalizing f o len with
  | zero => simpa [Fo.drop] using h
  | succ i ih => cases f with
    | nil => have : len = 0 := h; omega
    | cons k n t c r =>
      obtain ⟨b', o', m, cp, cl, cc, hp, rfl, _, _, _, _, _, _, _, _, _, _, _, hr⟩ := h
      simp only [Option.some.injEq, Addr.mk.injEq, and_true] at hp
      obtain ⟨rfl, rfl⟩ := hp
      have := ih hr (by omega)
      rw [show o + (i + 1) * 4 = o + 4 + i * 4 by omega, show m + 1 - (i + 1) = m - i by omega]
      exact this
/-- A list that isn't empty has an address. -/
theorem Kids.hasAddr {w : World} {A : Nat → Prop} {f : Fo} {p : Option Addr} {len : Nat} (h : Kids w A f p len) (hl : 0 < len) : ∃ b o, p = some ⟨b, o, none⟩ ∧ A b ∧ b < w.heap.size := by
  cases f with
  | nil => have : len = 0 := h; omega
  | cons k n t c r => obtain ⟨b, o, m, cp, cl, cc, hp, _, _, hb, hbs, _⟩ := h; exact ⟨b, o, hp, hb, hbs⟩

/-- A node at address ⟨b, o⟩. -/
structure NodeAt (w : World) (A : Nat → Prop) (b o : Nat) (k : ByteArray) (n : Int) (t : ByteArray) (c : Fo) (cp : Option Addr) (cl cc : Nat) : Prop where
  size : szok k t
  lc : cl ≤ cc
  cm : cc ≤ 9223372036854775807
  c0 : w.cell? ⟨b, o, none⟩ = some (.string k)
  c1 : w.cell? ⟨b, o + 1, none⟩ = some (.int .i64 n)
  c2 : w.cell? ⟨b, o + 2, none⟩ = some (.string t)
  c3 : w.cell? ⟨b, o + 3, none⟩ = some (.slice cp cl cc)
  kids : Kids w A c cp cl
theorem NodeAt.keeps {w w1 : World} {A S : Nat → Prop} {b o k n t c cp cl cc} (h : NodeAt w A b o k n t c cp cl cc) (hk : Keeps S w w1) (hA : ∀ b, A b → ¬ S b) (hb : b < w.heap.size) (hS : ¬ S b) : NodeAt w1 A b o k n t c cp cl cc :=
  ⟨h.size, h.lc, h.cm, (hk.cell (p := ⟨b, o, none⟩) hb hS).trans h.c0, (hk.cell (p := ⟨b, o + 1, none⟩) hb hS).trans h.c1, (hk.cell (p := ⟨b, o + 2, none⟩) hb hS).trans h.c2, (hk.cell (p := ⟨b, o + 3, none⟩) hb hS).trans h.c3, h.kids.keeps hk hA⟩
theorem Kids.nodeAt {w : World} {A : Nat → Prop} {k n t c r} {b o len : Nat} (h : Kids w A (.cons k n t c r) (some ⟨b, o, none⟩) len) : ∃ cp cl cc, NodeAt w A b o k n t c cp cl cc := by
  obtain ⟨b', o', m, cp, cl, cc, hp, _, _, _, _, ht, hcl, hcc, h0, h1, h2, h3, hc, _⟩ := h
  simp only [Option.some.injEq, Addr.mk.injEq, and_true] at hp
  obtain ⟨rfl, rfl⟩ := hp
  exact ⟨cp, cl, cc, ht, hcl, hcc, h0, h1, h2, h3, hc⟩
/-- The i-th kid. -/
theorem Kids.at_ {w : World} {A : Nat → Prop} {f : Fo} {b o len : Nat} (h : Kids w A f (some ⟨b, o, none⟩) len) (i : Nat) {k n t c r} (hd : f.drop i = .cons k n t c r) (hi : i < len) : ∃ cp cl cc, NodeAt w A b (o + i * 4) k n t c cp cl cc := by
  have := h.drop i (by omega)
  rw [hd] at this
  exact this.nodeAt


/-! Texts held against each other, in the walk's own spelling. -/

theorem txt_ne {a b : ByteArray} (h : a ≠ b) : (a.toList == b.toList) = false := by
  rw [ByteArray.toList_eq, ByteArray.toList_eq]
  cases he : (a.data.toList == b.data.toList) with
  | false => rfl
  | true =>
    rw [beq_iff_eq, Array.toList_inj] at he
    exact absurd (by cases a; cases b; simp_all) h
theorem num_ne {a b : Int} (h : a ≠ b) : (a != b) = true := by simpa using h
theorem num_nb {a b : Int} (h : a ≠ b) : (a == b) = false := by simpa using h
/-- Held against each other: the same? -/
noncomputable def eqB (c c' : Fo) : Bool := @decide (c = c') (Classical.propDecidable _)
theorem eqB_self (c : Fo) : eqB c c = true := by simp [eqB]
theorem eqB_true {c c' : Fo} : eqB c c' = true ↔ c = c' := by simp [eqB]
theorem eqB_false {c c' : Fo} : eqB c c' = false ↔ c ≠ c' := by simp [eqB]
/-- One tree. -/
def one (k : ByteArray) (n : Int) (t : ByteArray) (c : Fo) : Fo := .cons k n t c .nil
theorem one_inj {k k' n n' t t' c c'} : one k n t c = one k' n' t' c' ↔ k = k' ∧ n = n' ∧ t = t' ∧ c = c' := by simp [one]
theorem Fo.drop_eq_step {c c' : Fo} {j : Nat} {k n t cs r k' n' t' cs' r'} (hd : c.drop j = .cons k n t cs r) (hd' : c'.drop j = .cons k' n' t' cs' r') (h : c = c' ↔ c.drop j = c'.drop j) (he : one k n t cs = one k' n' t' cs') : c = c' ↔ c.drop (j + 1) = c'.drop (j + 1) := by
  rw [Fo.drop_step hd, Fo.drop_step hd', h, hd, hd']
  rw [one_inj] at he
  obtain ⟨rfl, rfl, rfl, rfl⟩ := he
  simp

/-- All blocks are there: every list of kids lies in old memory. -/
theorem Kids.top {w : World} {A : Nat → Prop} : ∀ {f : Fo} {p : Option Addr} {len : Nat}, Kids w A f p len → Kids w (fun b => b < w.heap.size) f p len
  | .nil, _, _, h => h
  | .cons _ _ _ _ _, _, _, ⟨b, o, m, cp, cl, cc, hp, hl, hlm, _, hbs, ht, hcl, hcc, h0, h1, h2, h3, hc, hr⟩ =>
    ⟨b, o, m, cp, cl, cc, hp, hl, hlm, hbs, hbs, ht, hcl, hcc, h0, h1, h2, h3, Kids.top hc, Kids.top hr⟩
/-- A tree by value. -/
abbrev tv (k : ByteArray) (n : Int) (t : ByteArray) (cp : Option Addr) (cl cc : Nat) : Value := .agg #[.string k, .int .i64 n, .string t, .slice cp cl cc]
structure Tv (w : World) (A : Nat → Prop) (k t : ByteArray) (c : Fo) (cp : Option Addr) (cl cc : Nat) : Prop where
  size : szok k t
  lc : cl ≤ cc
  cm : cc ≤ 9223372036854775807
  kids : Kids w A c cp cl
theorem Tv.keeps {w w1 : World} {A S : Nat → Prop} {k t c cp cl cc} (h : Tv w A k t c cp cl cc) (hk : Keeps S w w1) (hA : ∀ b, A b → ¬ S b) : Tv w1 A k t c cp cl cc := ⟨h.size, h.lc, h.cm, h.kids.keeps hk hA⟩
theorem Tv.mono {w : World} {A A' : Nat → Prop} {k t c cp cl cc} (h : Tv w A k t c cp cl cc) (hA : ∀ b, A b → A' b) : Tv w A' k t c cp cl cc := ⟨h.size, h.lc, h.cm, h.kids.mono hA⟩
theorem Tv.top {w : World} {A : Nat → Prop} {k t c cp cl cc} (h : Tv w A k t c cp cl cc) : Tv w (fun b => b < w.heap.size) k t c cp cl cc := ⟨h.size, h.lc, h.cm, h.kids.top⟩
theorem Tv.len {w : World} {A : Nat → Prop} {k t c cp cl cc} (h : Tv w A k t c cp cl cc) : c.len = cl := h.kids.len
theorem NodeAt.tv {w : World} {A : Nat → Prop} {b o k n t c cp cl cc} (h : NodeAt w A b o k n t c cp cl cc) : Tv w A k t c cp cl cc := ⟨h.size, h.lc, h.cm, h.kids⟩
theorem NodeAt.top {w : World} {A : Nat → Prop} {b o k n t c cp cl cc} (h : NodeAt w A b o k n t c cp cl cc) : NodeAt w (fun b => b < w.heap.size) b o k n t c cp cl cc := ⟨h.size, h.lc, h.cm, h.c0, h.c1, h.c2, h.c3, h.kids.top⟩
theorem NodeAt.mono {w : World} {A A' : Nat → Prop} {b o k n t c cp cl cc} (h : NodeAt w A b o k n t c cp cl cc) (hA : ∀ b, A b → A' b) : NodeAt w A' b o k n t c cp cl cc := ⟨h.size, h.lc, h.cm, h.c0, h.c1, h.c2, h.c3, h.kids.mono hA⟩
/-- Laid in a box of its own. -/
theorem Tv.boxed {w : World} {A : Nat → Prop} {k n t c cp cl cc} (h : Tv w A k t c cp cl cc) (T : TypeId) : NodeAt (w.alloc (.cells #[.string k, .int .i64 n, .string t, .slice cp cl cc] T)) A w.heap.size 0 k n t c cp cl cc :=
  ⟨h.size, h.lc, h.cm, by go_simp, by go_simp, by go_simp, by go_simp, h.kids.keeps (S := fun _ => False) ((Keeps.refl _ w).alloc _) (fun _ _ h => h)⟩
/-- A list of four values. -/
abbrev four (k : ByteArray) (n : Int) (t : ByteArray) (cp : Option Addr) (cl cc : Nat) : Array Value := #[.string k, .int .i64 n, .string t, .slice cp cl cc]

end Go.Proofs.Ytnphhibfiklfjaa

/-!
  Trees in memory of their own: rows of kids in blocks that nobody else has.
-/
namespace Go.Proofs.Ytnphhibfiklfjaa

open Go.RowKit

namespace Fo

def snoc : Fo → ByteArray → Int → ByteArray → Fo → Fo
  | nil, k, n, t, c => .cons k n t c .nil
  | cons k' n' t' c' r, k, n, t, c => .cons k' n' t' c' (r.snoc k n t c)
def take : Nat → Fo → Fo
  | 0, _ => nil
  | _ + 1, nil => nil
  | i + 1, cons k n t c r => .cons k n t c (take i r)
theorem take_step {i : Nat} {f : Fo} {k n t c r} (h : drop i f = .cons k n t c r) : take (i + 1) f = (take i f).snoc k n t c := by
  induction i generalizing f with
  | zero => cases f with
    | nil => simp [drop] at h
    | cons k' n' t' c' r' => simp only [drop] at h; injection h with h1 h2 h3 h4 h5; subst h1 h2 h3 h4; simp [take, snoc]
  | succ i ih => cases f with
    | nil => simp [drop] at h
    | cons k' n' t' c' r' => simp only [drop] at h; rw [take, ih h]; rfl
theorem take_len {f : Fo} {i : Nat} (h : f.len ≤ i) : take i f = f := by
  induction i generalizing f with
  | zero => cases f with
    | nil => rfl
    | cons k n t c r => simp [len] at h
  | succ i ih => cases f with
    | nil => rfl
    | cons k n t c r => rw [take, ih (by simpa [len] using h)]
theorem len_snoc (f : Fo) (k n t c) : (f.snoc k n t c).len = f.len + 1 := by
  induction f with
  | nil => rfl
  | cons k' n' t' c' r _ ih => simp [snoc, len, ih]
theorem len_take (i : Nat) (f : Fo) (h : i ≤ f.len) : (take i f).len = i := by
  induction i generalizing f with
  | zero => rfl
  | succ i ih => cases f with
    | nil => simp [len] at h
    | cons k n t c r => simp [take, len, ih r (by simpa [len] using h)]
end Fo

abbrev sb (p : Option Addr) (l c : Nat) : List Nat := ((Value.slice p l c).ownBlock).toList

/-- The values xs are the trees f, four cells each; bs: the blocks of the lists of kids beneath. -/
def RowRep (w : World) : Fo → List Value → List Nat → Prop
  | .nil, xs, bs => xs = [] ∧ bs = []
  | .cons k n t c r, xs, bs => ∃ cp cl cc ys bs1 xs' bs2, xs = .string k :: .int .i64 n :: .string t :: .slice cp cl cc :: xs' ∧ bs = sb cp cl cc ++ bs1 ++ bs2 ∧ szok k t ∧
      w.ownsRow 0 24 4 (.slice cp cl cc) c.len ys ∧ RowRep w c ys bs1 ∧ RowRep w r xs' bs2
/-- A list of kids in memory of its own. -/
def Own (w : World) (c : Fo) (cp : Option Addr) (cl cc : Nat) (bs : List Nat) : Prop :=
  ∃ ys bs1, w.ownsRow 0 24 4 (.slice cp cl cc) c.len ys ∧ RowRep w c ys bs1 ∧ bs = sb cp cl cc ++ bs1

theorem ownsRow_same {w w1 : World} {base e size n : Nat} {v : Value} {xs : List Value} (h : w.ownsRow base e size v n xs) (hb : ∀ b ∈ v.ownBlock.toList, w1.heap[b]? = w.heap[b]?) : w1.ownsRow base e size v n xs := by
  refine ⟨h.1, ?_⟩
  rcases h.2 with h2 | ⟨g, cap, cur, rfl, hg, hh, r⟩
  · exact .inl h2
  · exact .inr ⟨g, cap, cur, rfl, hg, by rw [hb g (by simp [Value.ownBlock])]; exact hh, r⟩
theorem RowRep.same {w w1 : World} : ∀ {f : Fo} {xs : List Value} {bs : List Nat}, RowRep w f xs bs → (∀ b ∈ bs, w1.heap[b]? = w.heap[b]?) → RowRep w1 f xs bs
  | .nil, _, _, h, _ => h
  | .cons _ _ _ _ _, _, _, ⟨cp, cl, cc, ys, bs1, xs', bs2, hx, hbs, ht, ho, hc, hr⟩, hb =>
    ⟨cp, cl, cc, ys, bs1, xs', bs2, hx, hbs, ht, ownsRow_same ho (fun b h => hb b (by rw [hbs]; simp only [List.mem_append]; exact .inl (.inl h))), RowRep.same hc (fun b h => hb b (by rw [hbs]; simp only [List.mem_append]; exact .inl (.inr h))), RowRep.same hr (fun b h => hb b (by rw [hbs]; simp only [List.mem_append]; exact .inr h))⟩
theorem Own.same {w w1 : World} {c : Fo} {cp cl cc bs} (h : Own w c cp cl cc bs) (hb : ∀ b ∈ bs, w1.heap[b]? = w.heap[b]?) : Own w1 c cp cl cc bs := by
  obtain ⟨ys, bs1, ho, hr, rfl⟩ := h
  exact ⟨ys, bs1, ownsRow_same ho (fun b h => hb b (by simp only [List.mem_append]; exact .inl h)), hr.same (fun b h => hb b (by simp only [List.mem_append]; exact .inr h)), rfl⟩
theorem RowRep.keeps {w w1 : World} {S : Nat → Prop} {f : Fo} {xs : List Value} {bs : List Nat} (h : RowRep w f xs bs) (hk : Keeps S w w1) (hb : ∀ b ∈ bs, b < w.heap.size ∧ ¬ S b) : RowRep w1 f xs bs := h.same fun b hm => hk.block b (hb b hm).1 (hb b hm).2
theorem Own.keeps {w w1 : World} {S : Nat → Prop} {c : Fo} {cp cl cc bs} (h : Own w c cp cl cc bs) (hk : Keeps S w w1) (hb : ∀ b ∈ bs, b < w.heap.size ∧ ¬ S b) : Own w1 c cp cl cc bs := h.same fun b hm => hk.block b (hb b hm).1 (hb b hm).2
theorem RowRep.snoc {w : World} {k n t c cp cl cc bs'} (ht : szok k t) (ho : Own w c cp cl cc bs') : ∀ {f : Fo} {xs : List Value} {bs : List Nat}, RowRep w f xs bs → RowRep w (f.snoc k n t c) (xs ++ [.string k, .int .i64 n, .string t, .slice cp cl cc]) (bs ++ bs')
  | .nil, _, _, ⟨hx, hb⟩ => by
    subst hx hb
    obtain ⟨ys, bs1, h1, h2, rfl⟩ := ho
    exact ⟨cp, cl, cc, ys, bs1, [], [], rfl, by simp, ht, h1, h2, rfl, rfl⟩
  | .cons _ _ _ _ _, _, _, ⟨cp', cl', cc', ys, bs1, xs', bs2, hx, hbs, ht', h1, h2, hr⟩ =>
    ⟨cp', cl', cc', ys, bs1, _, _, by rw [hx]; rfl, by rw [hbs]; simp [List.append_assoc], ht', h1, h2, RowRep.snoc ht ho hr⟩
theorem add0 (g j : Nat) : (⟨g, 0, none⟩ : Addr).add j = ⟨g, j, none⟩ := by unfold Addr.add; split <;> simp_all
theorem RowRep.nil (w : World) : RowRep w .nil [] [] := ⟨rfl, rfl⟩
theorem Own.nil (w : World) : Own w .nil none 0 0 [] := ⟨[], [], World.ownsRow_nil _ _ _ _, RowRep.nil w, rfl⟩
/-- The row's own cells, read one by one. -/
theorem RowRep.kids {w : World} {A : Nat → Prop} : ∀ {f : Fo} {xs : List Value} {bs : List Nat} {g o : Nat}, RowRep w f xs bs → (∀ j u, xs[j]? = some u → w.cell? ⟨g, o + j, none⟩ = some u) → A g → g < w.heap.size → f.len ≤ 9223372036854775807 → (∀ b ∈ bs, A b) → Kids w A f (some ⟨g, o, none⟩) f.len
  | .nil, _, _, _, _, _, _, _, _, _, _ => rfl
  | .cons k n t c r, _, _, g, o, ⟨cp, cl, cc, ys, bs1, xs', bs2, hx, hbs, ht, ho, hc, hr⟩, hcell, hA, hg, hl, hb => by
    subst hx
    have hmem : ∀ b, b ∈ sb cp cl cc ++ bs1 → A b := fun b h => hb b (by rw [hbs]; simp only [List.mem_append] at h ⊢; exact .inl h)
    have hkc : Kids w A c cp cl ∧ cl ≤ cc ∧ cc ≤ 9223372036854775807 := by
      rcases ho.2 with ⟨he, h0⟩ | ⟨g', cap, cur, he, _, hh, h1, h2, h3, h4⟩
      · cases c with
        | nil => simp only [Value.slice.injEq] at he; obtain ⟨_, rfl, rfl⟩ := he; exact ⟨rfl, Nat.le_refl _, by omega⟩
        | cons k' n' t' c' r' => simp [Fo.len] at h0
      · simp only [Value.slice.injEq] at he
        obtain ⟨rfl, rfl, rfl⟩ := he
        have hlt : g' < w.heap.size := (Array.getElem?_eq_some_iff.1 hh).1
        refine ⟨RowRep.kids hc (fun j u hu => ?_) (hmem g' (by simp [sb, Value.ownBlock])) hlt (by simp only [maxLen] at h2; omega) (fun b hm => hmem b (by simp only [List.mem_append]; exact .inr hm)), h1, by simpa [maxLen] using h2⟩
        have := ho.cells (g := g') rfl j u hu
        rw [add0] at this
        simpa using this
    refine ⟨g, o, r.len, cp, cl, cc, rfl, rfl, hl, hA, hg, ht, hkc.2.1, hkc.2.2, ?_, ?_, ?_, ?_, hkc.1, ?_⟩
    · exact hcell 0 _ rfl
    · exact hcell 1 _ rfl
    · exact hcell 2 _ rfl
    · exact hcell 3 _ rfl
    · refine RowRep.kids hr (fun j u hu => ?_) hA hg (by simp only [Fo.len] at hl; omega) (fun b hm => hb b (by rw [hbs]; simp only [List.mem_append]; exact .inr hm))
      have := hcell (j + 4) u (by simpa using hu)
      rw [show o + 4 + j = o + (j + 4) by omega]
      exact this
theorem Own.kids {w : World} {A : Nat → Prop} {c : Fo} {cp cl cc bs} (h : Own w c cp cl cc bs) (hb : ∀ b ∈ bs, A b) : Kids w A c cp cl ∧ cl ≤ cc ∧ cc ≤ 9223372036854775807 ∧ c.len = cl := by
  obtain ⟨ys, bs1, ho, hr, rfl⟩ := h
  rcases ho.2 with ⟨he, h0⟩ | ⟨g', cap, cur, he, _, hh, h1, h2, h3, h4⟩
  · cases c with
    | nil => simp only [Value.slice.injEq] at he; obtain ⟨_, rfl, rfl⟩ := he; exact ⟨rfl, Nat.le_refl _, by omega, rfl⟩
    | cons k' n' t' c' r' => simp [Fo.len] at h0
  · simp only [Value.slice.injEq] at he
    obtain ⟨rfl, rfl, rfl⟩ := he
    have hlt : g' < w.heap.size := (Array.getElem?_eq_some_iff.1 hh).1
    refine ⟨RowRep.kids hr (fun j u hu => ?_) (hb g' (by simp [sb, Value.ownBlock])) hlt (by simp only [maxLen] at h2; omega) (fun b hm => hb b (by simp only [List.mem_append]; exact .inr hm)), h1, by simpa [maxLen] using h2, rfl⟩
    have := ho.cells (g := g') rfl j u hu
    rw [add0] at this
    simpa using this
theorem Own.tv {w : World} {k t : ByteArray} {c : Fo} {cp cl cc bs} (h : Own w c cp cl cc bs) (ht : szok k t) : Tv w (fun b => b ∈ bs) k t c cp cl cc := by
  obtain ⟨h1, h2, h3, _⟩ := h.kids (A := fun b => b ∈ bs) (fun _ h => h)
  exact ⟨ht, h2, h3, h1⟩
/-- New memory: blocks from D on, each once. -/
structure News (w : World) (D : Nat) (bs : List Nat) : Prop where
  lo : ∀ b ∈ bs, D ≤ b
  hi : ∀ b ∈ bs, b < w.heap.size
  nodup : bs.Nodup
theorem News.keeps {w w1 : World} {D : Nat} {bs : List Nat} {S : Nat → Prop} (h : News w D bs) (hk : Keeps S w w1) : News w1 D bs := ⟨h.lo, fun b hb => Nat.lt_of_lt_of_le (h.hi b hb) hk.size, h.nodup⟩
theorem News.nil (w : World) (D : Nat) : News w D [] := ⟨by simp, by simp, List.nodup_nil⟩
theorem News.append {w w1 : World} {D : Nat} {bs bs' : List Nat} {S : Nat → Prop} (h : News w D bs) (hD : D ≤ w.heap.size) (h' : News w1 w.heap.size bs') (hk : Keeps S w w1) : News w1 D (bs ++ bs') := by
  refine ⟨fun b hb => ?_, fun b hb => ?_, ?_⟩
  · rcases List.mem_append.1 hb with hb | hb
    · exact h.lo b hb
    · exact Nat.le_trans hD (h'.lo b hb)
  · rcases List.mem_append.1 hb with hb | hb
    · exact Nat.lt_of_lt_of_le (h.hi b hb) hk.size
    · exact h'.hi b hb
  · refine List.nodup_append.2 ⟨h.nodup, h'.nodup, fun a ha b hb e => ?_⟩
    have h1 := h.hi a ha
    have h2 := h'.lo b hb
    omega
theorem News.mono {w : World} {D D' : Nat} {bs : List Nat} (h : News w D bs) (hD : D' ≤ D) : News w D' bs := ⟨fun b hb => Nat.le_trans hD (h.lo b hb), h.hi, h.nodup⟩

end Go.Proofs.Ytnphhibfiklfjaa

/-!
  Paths: lists of numbers in memory, and what lies at a path.
-/
namespace Go.Proofs.Ytnphhibfiklfjaa

open Go.RowKit

/-- Whole numbers, one a cell. -/
structure Ints (w : World) (A : Nat → Prop) (xs : List Int) (p : Option Addr) (n : Nat) : Prop where
  len : xs.length = n
  le : n ≤ 9223372036854775807
  cells : 0 < n → ∃ b o, p = some ⟨b, o, none⟩ ∧ A b ∧ b < w.heap.size ∧ ∀ i, i < n → w.cell? ⟨b, o + i, none⟩ = some (.int .i64 (xs.getD i 0))
theorem Ints.keeps {w w1 : World} {A S : Nat → Prop} {xs p n} (h : Ints w A xs p n) (hk : Keeps S w w1) (hA : ∀ b, A b → ¬ S b) : Ints w1 A xs p n :=
  ⟨h.len, h.le, fun hn => by
    obtain ⟨b, o, hp, hb, hl, hc⟩ := h.cells hn
    exact ⟨b, o, hp, hb, Nat.lt_of_lt_of_le hl hk.size, fun i hi => (hk.cell (p := ⟨b, o + i, none⟩) hl (hA b hb)).trans (hc i hi)⟩⟩
theorem Ints.mono {w : World} {A A' : Nat → Prop} {xs p n} (h : Ints w A xs p n) (hA : ∀ b, A b → A' b) : Ints w A' xs p n :=
  ⟨h.len, h.le, fun hn => by
    obtain ⟨b, o, hp, hb, r⟩ := h.cells hn
    exact ⟨b, o, hp, hA b hb, r⟩⟩
theorem Ints.top {w : World} {A : Nat → Prop} {xs p n} (h : Ints w A xs p n) : Ints w (fun b => b < w.heap.size) xs p n :=
  ⟨h.len, h.le, fun hn => by
    obtain ⟨b, o, hp, hb, hl, r⟩ := h.cells hn
    exact ⟨b, o, hp, hl, hl, r⟩⟩
theorem Ints.nil (w : World) (A : Nat → Prop) : Ints w A [] none 0 := ⟨rfl, by omega, fun h => absurd h (by omega)⟩
theorem Ints.at_ {w : World} {A : Nat → Prop} {xs : List Int} {b o n : Nat} (h : Ints w A xs (some ⟨b, o, none⟩) n) {j : Nat} {x : Int} {r : List Int} (hd : xs.drop j = x :: r) : w.cell? ⟨b, o + j, none⟩ = some (.int .i64 x) := by
  have hj : j < n := by
    have := congrArg List.length hd
    have := h.len
    simp at *
    omega
  obtain ⟨b', o', hp, _, _, hc⟩ := h.cells (by omega)
  simp only [Option.some.injEq, Addr.mk.injEq, and_true] at hp
  obtain ⟨rfl, rfl⟩ := hp
  rw [hc j hj]
  have : xs[j]? = some x := by
    have := List.getElem?_drop (xs := xs) (i := j) (j := 0)
    rw [hd] at this
    simpa using this.symm
  simp [List.getD_eq_getElem?_getD, this]
theorem Ints.dropLt {w : World} {A : Nat → Prop} {xs : List Int} {p : Option Addr} {n : Nat} (h : Ints w A xs p n) {j : Nat} (hj : j < n) : ∃ x r, xs.drop j = x :: r ∧ xs.drop (j + 1) = r ∧ ∃ b o, p = some ⟨b, o, none⟩ ∧ A b ∧ b < w.heap.size := by
  have hl := h.len
  obtain ⟨b, o, hp, hb, hbs, _⟩ := h.cells (by omega)
  cases hd : xs.drop j with
  | nil => have := congrArg List.length hd; simp at this; omega
  | cons x r =>
    refine ⟨x, r, rfl, ?_, b, o, hp, hb, hbs⟩
    rw [show j + 1 = j + 1 from rfl, ← List.drop_drop, hd]
    rfl

/-- A tree, as data. -/
structure Nd where
  k : ByteArray
  n : Int
  t : ByteArray
  c : Fo
theorem Nd.ext' {x y : Nd} (h1 : x.k = y.k) (h2 : x.n = y.n) (h3 : x.t = y.t) (h4 : x.c = y.c) : x = y := by cases x; cases y; simp_all
namespace Fo

/-- The i-th. -/
def at? : Fo → Nat → Option Nd
  | nil, _ => none
  | cons k n t c _, 0 => some ⟨k, n, t, c⟩
  | cons _ _ _ _ r, i + 1 => r.at? i
theorem at?_drop {f : Fo} {i : Nat} {k n t c r} (h : drop i f = .cons k n t c r) : f.at? i = some ⟨k, n, t, c⟩ := by
  induction i generalizing f with
  | zero => cases f with
    | nil => simp [drop] at h
    | cons k' n' t' c' r' => simp only [drop] at h; injection h with h1 h2 h3 h4 h5; subst h1 h2 h3 h4; rfl
  | succ i ih => cases f with
    | nil => simp [drop] at h
    | cons k' n' t' c' r' => exact ih h
theorem at?_none {f : Fo} {i : Nat} (h : f.len ≤ i) : f.at? i = none := by
  induction i generalizing f with
  | zero => cases f with
    | nil => rfl
    | cons k n t c r => simp [len] at h
  | succ i ih => cases f with
    | nil => rfl
    | cons k n t c r => exact ih (by simpa [len] using h)
/-- The i-th by a number of Go's. -/
def kid (f : Fo) (i : Int) : Option Nd := if i < 0 then none else f.at? i.toNat
end Fo

/-- What lies at a path. -/
def sub : List Int → Nd → Option Nd
  | [], x => some x
  | i :: r, x => (x.c.kid i).bind (sub r)
/-- The way there, in memory. -/
def Nav (w : World) : List Int → Nat → Nat → Nat → Nat → Prop
  | [], b, o, b', o' => b' = b ∧ o' = o
  | i :: r, b, o, b', o' => ∃ kb ko cl cc, w.cell? ⟨b, o + 3, none⟩ = some (.slice (some ⟨kb, ko, none⟩) cl cc) ∧ 0 ≤ i ∧ i.toNat < cl ∧ Nav w r kb (ko + i.toNat * 4) b' o'
theorem Nav.snoc {w : World} {i : Int} : ∀ {r : List Int} {b o b1 o1 kb ko cl cc : Nat}, Nav w r b o b1 o1 → w.cell? ⟨b1, o1 + 3, none⟩ = some (.slice (some ⟨kb, ko, none⟩) cl cc) → 0 ≤ i → i.toNat < cl → Nav w (r ++ [i]) b o kb (ko + i.toNat * 4)
  | [], b, o, b1, o1, kb, ko, cl, cc, ⟨h1, h2⟩, hc, h0, hl => by subst h1 h2; exact ⟨kb, ko, cl, cc, hc, h0, hl, rfl, rfl⟩
  | x :: r, b, o, b1, o1, kb, ko, cl, cc, ⟨kb', ko', cl', cc', h1, h2, h3, h4⟩, hc, h0, hl => ⟨kb', ko', cl', cc', h1, h2, h3, Nav.snoc h4 hc h0 hl⟩
theorem sub_snoc (i : Int) : ∀ (r : List Int) (x : Nd), sub (r ++ [i]) x = (sub r x).bind fun y => y.c.kid i
  | [], x => by simp [sub, Option.bind]; cases x.c.kid i <;> rfl
  | j :: r, x => by
    simp only [List.cons_append, sub]
    cases x.c.kid j with
    | none => rfl
    | some y => exact sub_snoc i r y
theorem sub_none {r s : List Int} {x : Nd} (h : sub r x = none) : sub (r ++ s) x = none := by
  induction r generalizing x with
  | nil => simp [sub] at h
  | cons i r ih =>
    simp only [List.cons_append, sub] at h ⊢
    cases hk : x.c.kid i with
    | none => rfl
    | some y => rw [hk] at h; exact ih h

end Go.Proofs.Ytnphhibfiklfjaa

/-!
  The row's reading of a tree, turned into a readable tree in memory.
-/
namespace Go.Proofs.Ytnphhibfiklfjaa

open Go.RowKit

theorem weightsAll_mem {H : Type} {P : Program} {e : TypeId} : ∀ {ds : List (DataW H)} {d : DataW H}, d ∈ ds → ∀ n ∈ d.weights P e, n ∈ DataW.weightsAll P e ds
  | d0 :: ds, d, hd, n, hn => by
    simp only [DataW.weightsAll, List.mem_append]
    rcases List.mem_cons.1 hd with rfl | h
    · exact .inl hn
    · exact .inr (weightsAll_mem h n hn)
/-- Within reach. -/
def Reach {H : Type} (P : Program) (t : TypeId) (d : DataW H) : Prop := ∀ n ∈ d.weights P t, n ≤ 140737488351232
theorem Reach.elem {H : Type} {P : Program} {t e : TypeId} {elems spare : List (DataW H)} (hu : P.underlying t = some (.slice e)) (h : Reach P t (.slice elems spare)) {d : DataW H} (hd : d ∈ elems) : Reach P e d := fun n hn => h n (by
  simp only [DataW.weights, hu, List.mem_cons, List.mem_append]
  exact .inr (.inl (weightsAll_mem hd n hn)))
theorem Reach.field {H : Type} {P : Program} {t : TypeId} {fs : Array Field} {parts : List (DataW H)} (hu : P.underlying t = some (.struct fs)) (h : Reach P t (.agg parts)) {j : Nat} {f : TypeId} {d : DataW H} (hf : (fs.toList.map (·.type))[j]? = some f) (hd : parts[j]? = some d) : Reach P f d := fun n hn => h n (by
  simp only [DataW.weights, hu]
  exact DataW.weights_mem_each hf hd n hn)
theorem Reach.string {H : Type} {P : Program} {t : TypeId} {s : ByteArray} (h : Reach P t (DataW.lit (H := H) (.string s.data.toList))) : s.size ≤ 140737488351232 := by
  have := h s.data.toList.length (by simp [DataW.weights])
  simpa using this
section

variable {H : Type} {enc : TypeId × Value → H} {w : World} {held : Bool} {sp : Nat → Bool}

/-- A tree's four cells. -/
def IsTree (w : World) (cs : List Value) : Prop := ∃ k n t f cp cl cc, cs = [.string k, .int .i64 n, .string t, .slice cp cl cc] ∧ Tv w (fun b => b < w.heap.size) k t f cp cl cc ∧ (Lit.int .i64 n).wf = true
def IsKids (w : World) (cs : List Value) : Prop := ∃ f cp cl cc, cs = [.slice cp cl cc] ∧ Kids w (fun b => b < w.heap.size) f cp cl ∧ cl ≤ cc ∧ cc ≤ 9223372036854775807
theorem read_both : ∀ n, (∀ cs x, DataW.trod enc Try.prog w 0 sp held n 22 cs = some x → Reach Try.prog 22 x.1 → IsKids w cs) ∧
    (∀ cs x, DataW.trod enc Try.prog w 0 sp held n 24 cs = some x → Reach Try.prog 24 x.1 → IsTree w cs) := by
  intro n
  induction n with
  | zero => exact ⟨fun cs x h => by simp [DataW.trod] at h, fun cs x h => by simp [DataW.trod] at h⟩
  | succ n ih =>
    refine ⟨fun cs x h hr => ?_, fun cs x h hr => ?_⟩
    · have hu : Try.prog.underlying 22 = some (.slice 24) := Try.underlying22
      rcases DataW.trod_slice hu h with ⟨rfl, rfl⟩ | ⟨a, len, cap, elems, rest, m, hm, rfl, rfl, _, hl, hcap, hlen, hel, _, _⟩
      · exact ⟨.nil, none, 0, 0, rfl, rfl, Nat.le_refl _, by omega⟩
      · obtain rfl : n = m := by omega
        have hmax : cap ≤ 9223372036854775807 := by unfold maxLen at hcap; exact hcap
        have h4 : Try.prog.cellsOf 24 = 4 := by kernel_rfl
        rw [h4] at hel
        have one : ∀ i, i < len → ∃ cs', w.cells? 0 (a.add (i * 4)) 4 = some cs' ∧ IsTree w cs' := by
          intro i hi
          have he : i < elems.length := by omega
          have := hel i hi
          rw [List.getElem?_eq_getElem he] at this
          obtain ⟨cs', h1, h2⟩ := Option.bind_eq_some_iff.1 this
          exact ⟨cs', h1, ih.2 cs' _ h2 (hr.elem hu (List.mem_map_of_mem (List.getElem_mem he)))⟩
        have spot : 0 < len → ∃ b o, a = ⟨b, o, none⟩ := by
          intro h0
          obtain ⟨cs', h1, _⟩ := one 0 h0
          have h2 := (World.cells?_some h1).2.2 0 (by omega)
          have h3 : ∃ v, cs'[0]? = some v := by
            have := (World.cells?_some h1).2.1
            exact ⟨_, List.getElem?_eq_getElem (by omega)⟩
          obtain ⟨v, h3⟩ := h3
          rw [h3] at h2
          have hs := World.cell?_spot h2
          obtain ⟨b, o, s⟩ := a
          have : s = none := by simpa [Addr.add] using hs
          exact ⟨b, o, by rw [this]⟩
        by_cases h0 : len = 0
        · subst h0
          exact ⟨.nil, some a, 0, cap, rfl, rfl, Nat.zero_le _, hmax⟩
        · obtain ⟨b, o, rfl⟩ := spot (by omega)
          have all : ∀ j, j ≤ len → ∃ f, Kids w (fun b => b < w.heap.size) f (some ⟨b, o + (len - j) * 4, none⟩) j := by
            intro j
            induction j with
            | zero => exact fun _ => ⟨.nil, rfl⟩
            | succ j ihj =>
              intro hj
              obtain ⟨r, hr'⟩ := ihj (by omega)
              obtain ⟨cs', h1, k, nn, t, f, cp, cl, cc, rfl, htv, _⟩ := one (len - (j + 1)) (by omega)
              have g := (World.cells?_some h1).2.2
              have g0 := g 0 (by omega)
              have g1 := g 1 (by omega)
              have g2 := g 2 (by omega)
              have g3 := g 3 (by omega)
              simp only [WideShapes.add_plain, List.getElem?_cons_zero, List.getElem?_cons_succ, Nat.add_zero] at g0 g1 g2 g3
              refine ⟨.cons k nn t f r, b, o + (len - (j + 1)) * 4, j, cp, cl, cc, rfl, rfl, by omega, World.block_lt_of_cell? w ⟨b, o + (len - (j + 1)) * 4, none⟩ g0, World.block_lt_of_cell? w ⟨b, o + (len - (j + 1)) * 4, none⟩ g0, htv.size, htv.lc, htv.cm, g0, g1, g2, g3, htv.kids, ?_⟩
              rw [show o + (len - (j + 1)) * 4 + 4 = o + (len - j) * 4 by omega]
              exact hr'
          obtain ⟨f, hf⟩ := all len (Nat.le_refl _)
          exact ⟨f, some ⟨b, o, none⟩, len, cap, rfl, by simpa using hf, hl, hmax⟩
    · have hu := Try.underlying24
      obtain ⟨xs, m, hm, rfl, hl, hlen, hf⟩ := DataW.trod_struct hu h
      obtain rfl : n = m := by omega
      have h4 : Try.prog.cellsOf 24 = 4 := by kernel_rfl
      rw [h4] at hl
      have f0 : DataW.trod enc Try.prog w 0 sp held n 9 (List.take (Try.prog.cellsOf 9) (List.drop 0 cs)) = xs[0]? := hf 0 _ rfl
      have f1 : DataW.trod enc Try.prog w 0 sp held n 2 (List.take (Try.prog.cellsOf 2) (List.drop 1 cs)) = xs[1]? := hf 1 _ rfl
      have f2 : DataW.trod enc Try.prog w 0 sp held n 9 (List.take (Try.prog.cellsOf 9) (List.drop 2 cs)) = xs[2]? := hf 2 _ rfl
      have f3 : DataW.trod enc Try.prog w 0 sp held n 22 (List.take (Try.prog.cellsOf 22) (List.drop 3 cs)) = xs[3]? := hf 3 _ rfl
      clear hf
      have g0 := fun (f : TypeId) (d : DataW H) hf' hd' => hr.field (j := 0) (f := f) (d := d) hu hf' hd'
      have g2 := fun (f : TypeId) (d : DataW H) hf' hd' => hr.field (j := 2) (f := f) (d := d) hu hf' hd'
      have g3 := fun (f : TypeId) (d : DataW H) hf' hd' => hr.field (j := 3) (f := f) (d := d) hu hf' hd'
      clear hr hu h
      rw [show Try.prog.cellsOf 9 = 1 by kernel_rfl] at f0 f2
      rw [show Try.prog.cellsOf 2 = 1 by kernel_rfl] at f1
      rw [show Try.prog.cellsOf 22 = 1 by kernel_rfl] at f3
      obtain ⟨c0, c1, c2, c3, rfl⟩ : ∃ c0 c1 c2 c3, cs = [c0, c1, c2, c3] := by
        match cs, hl with
        | [c0, c1, c2, c3], _ => exact ⟨c0, c1, c2, c3, rfl⟩
      obtain ⟨y0, y1, y2, y3, rfl⟩ : ∃ y0 y1 y2 y3, xs = [y0, y1, y2, y3] := by
        match xs, hlen with
        | [c0, c1, c2, c3], _ => exact ⟨c0, c1, c2, c3, rfl⟩
      have f0 : DataW.trod enc Try.prog w 0 sp held n 9 [c0] = some y0 := f0
      have f1 : DataW.trod enc Try.prog w 0 sp held n 2 [c1] = some y1 := f1
      have f2 : DataW.trod enc Try.prog w 0 sp held n 9 [c2] = some y2 := f2
      have f3 : DataW.trod enc Try.prog w 0 sp held n 22 [c3] = some y3 := f3
      have us : Try.prog.underlying 9 = some .string := Try.underlying9
      have ui : Try.prog.underlying 2 = some (.int .i64) := Try.underlying2
      obtain ⟨s0, e0, rfl, _⟩ := DataW.trod_string us f0
      obtain ⟨n1, e1, rfl, w1⟩ := DataW.trod_int ui f1
      obtain ⟨s2, e2, rfl, _⟩ := DataW.trod_string us f2
      obtain rfl := (List.cons.inj e0).1
      obtain rfl := (List.cons.inj e1).1
      obtain rfl := (List.cons.inj e2).1
      have r0 := (g0 9 _ rfl rfl).string
      have r2 := (g2 9 _ rfl rfl).string
      obtain ⟨f, cp, cl, cc, e3, hk, hc1, hc2⟩ := ih.1 _ _ f3 (g3 22 _ rfl rfl)
      obtain rfl := (List.cons.inj e3).1
      exact ⟨s0, n1, s2, f, cp, cl, cc, rfl, ⟨⟨r2, r0⟩, hc1, hc2, hk⟩, w1⟩
end

end Go.Proofs.Ytnphhibfiklfjaa

/-!
  Names of kinds, byte by byte, in plain Lean.
-/
namespace Go.Proofs.Ytnphhibfiklfjaa

open Go.RowKit

def smallR (r : Int) : Bool := decide (97 ≤ r) && decide (r ≤ 122)
def digitR (r : Int) : Bool := decide (48 ≤ r) && decide (r ≤ 57)
def wordR (r : Int) : Bool := smallR r || digitR r
theorem wordR_high {r : Int} (h : 128 ≤ r) : wordR r = false := by
  simp only [wordR, smallR, digitR, Bool.or_eq_false_iff, Bool.and_eq_false_iff, decide_eq_false_iff_not]
  omega
/-- 1 to so many bytes, the first one such, all of them such. -/
def madeB (l : List UInt8) (most : Int) (p1 p2 : Int → Bool) : Bool :=
  match l with
  | [] => false
  | c :: r => decide ((l.length : Int) ≤ most) && p1 c.toNat && (c :: r).all fun c => p2 c.toNat
def wordB (l : List UInt8) : Bool := madeB l 16 smallR wordR
/-- Is it a kind's name? -/
def kindB (l : List UInt8) : Bool := if Lib.indexByte l 46 < 0 then false else wordB (l.take (Lib.indexByte l 46).toNat) && wordB (l.drop ((Lib.indexByte l 46).toNat + 1))
theorem all_take_succ {l : List UInt8} {p : UInt8 → Bool} {k : Nat} (h : k < l.length) : (l.take (k + 1)).all p = ((l.take k).all p && p l[k]) := by
  rw [List.take_succ_eq_append_getElem h, List.all_append]
  simp
theorem data_at (s : ByteArray) (k : Nat) (h : k < s.size) : s.data.toList[k]'(by simpa using h) = s[k]'h := rfl
end Go.Proofs.Ytnphhibfiklfjaa

/-!
  What tree.walk reckons, in plain Lean.
-/
namespace Go.Proofs.Ytnphhibfiklfjaa

open Go.RowKit

structure Cnt where
  nodes : Int
  depth : Int
  bytes : Int
namespace Cnt

def bad (c : Cnt) (d : Int) : Bool := decide (1024 < c.nodes) || decide (64 < d) || decide (16384 < c.bytes)
def add (c : Cnt) (d : Int) (t : ByteArray) : Cnt := ⟨c.nodes + 1, if c.depth < d then d else c.depth, c.bytes + t.size⟩
def fit (c : Cnt) : Prop := 0 ≤ c.nodes ∧ c.nodes ≤ 1024 ∧ 0 ≤ c.bytes ∧ c.bytes ≤ 16384
theorem add_fit {c : Cnt} {d : Int} {t : ByteArray} (h : c.fit) (hb : (c.add d t).bad d = false) : (c.add d t).fit := by
  obtain ⟨h1, h2, h3, h4⟩ := h
  simp only [bad, Bool.or_eq_false_iff, decide_eq_false_iff_not] at hb
  obtain ⟨⟨b1, b2⟩, b3⟩ := hb
  refine ⟨by simp only [add]; omega, by omega, by simp only [add]; omega, by omega⟩
theorem bad_cases {c : Cnt} {d : Int} {t : ByteArray} (h : (c.add d t).bad d = true) : 1024 < c.nodes + 1 ∨ (c.nodes + 1 ≤ 1024 ∧ 64 < d) ∨ (c.nodes + 1 ≤ 1024 ∧ d ≤ 64 ∧ 16384 < c.bytes + t.size) := by
  simp only [bad, Bool.or_eq_true, decide_eq_true_eq] at h
  simp only [add] at h
  omega
theorem good_cases {c : Cnt} {d : Int} {t : ByteArray} (h : (c.add d t).bad d = false) : c.nodes + 1 ≤ 1024 ∧ d ≤ 64 ∧ c.bytes + t.size ≤ 16384 := by
  simp only [bad, Bool.or_eq_false_iff, decide_eq_false_iff_not] at h
  simp only [add] at h
  omega
end Cnt

/-- The trees f, each at depth d: what has been counted, whether it went through, and the kinds that were seen. -/
def wlk : Fo → Int → Cnt → Cnt × Bool × List ByteArray
  | .nil, _, c => (c, true, [])
  | .cons k _ t cs r, d, c =>
    if (c.add d t).bad d then (c.add d t, false, [])
    else if (wlk cs (d + 1) (c.add d t)).2.1 then
      ((wlk r d (wlk cs (d + 1) (c.add d t)).1).1, (wlk r d (wlk cs (d + 1) (c.add d t)).1).2.1, k :: (wlk cs (d + 1) (c.add d t)).2.2 ++ (wlk r d (wlk cs (d + 1) (c.add d t)).1).2.2)
    else ((wlk cs (d + 1) (c.add d t)).1, false, k :: (wlk cs (d + 1) (c.add d t)).2.2)
/-- One tree. -/
def wlk1 (k t : ByteArray) (cs : Fo) (d : Int) (c : Cnt) : Cnt × Bool × List ByteArray :=
  if (c.add d t).bad d then (c.add d t, false, []) else ((wlk cs (d + 1) (c.add d t)).1, (wlk cs (d + 1) (c.add d t)).2.1, k :: (wlk cs (d + 1) (c.add d t)).2.2)
theorem wlk_cons_true {k n t cs r d c} (h : (wlk1 k t cs d c).2.1 = true) : wlk (.cons k n t cs r) d c = ((wlk r d (wlk1 k t cs d c).1).1, (wlk r d (wlk1 k t cs d c).1).2.1, (wlk1 k t cs d c).2.2 ++ (wlk r d (wlk1 k t cs d c).1).2.2) := by
  unfold wlk1 at h ⊢
  by_cases hb : (c.add d t).bad d = true
  · simp [hb] at h
  · simp only [hb] at h ⊢
    rw [wlk]
    simp only [hb, if_false, Bool.false_eq_true] at h ⊢
    simp [h]
theorem wlk_cons_false {k n t cs r d c} (h : (wlk1 k t cs d c).2.1 = false) : wlk (.cons k n t cs r) d c = wlk1 k t cs d c := by
  unfold wlk1 at h ⊢
  by_cases hb : (c.add d t).bad d = true
  · rw [wlk]; simp [hb]
  · simp only [hb, if_false, Bool.false_eq_true] at h ⊢
    rw [wlk]
    simp [h, hb]
theorem wlk_fit : ∀ (f : Fo) (d : Int) (c : Cnt), c.fit → (wlk f d c).2.1 = true → (wlk f d c).1.fit
  | .nil, _, _, h, _ => h
  | .cons k n t cs r, d, c, h, ht => by
    rw [wlk] at ht ⊢
    by_cases hb : (c.add d t).bad d = true
    · simp [hb] at ht
    · simp only [hb, if_false, Bool.false_eq_true] at ht ⊢
      by_cases h1 : (wlk cs (d + 1) (c.add d t)).2.1 = true
      · simp only [h1, if_true] at ht ⊢
        exact wlk_fit r d _ (wlk_fit cs (d + 1) _ (Cnt.add_fit h (by simpa using hb)) h1) ht
      · simp [h1] at ht
theorem wlk1_fit {k t cs d c} (h : Cnt.fit c) (ht : (wlk1 k t cs d c).2.1 = true) : (wlk1 k t cs d c).1.fit := by
  unfold wlk1 at ht ⊢
  by_cases hb : (c.add d t).bad d = true
  · simp [hb] at ht
  · simp only [hb, if_false, Bool.false_eq_true] at ht ⊢
    exact wlk_fit cs (d + 1) _ (Cnt.add_fit h (by simpa using hb)) ht

theorem wlk1_good {k t cs d} {c : Cnt} (h : (c.add d t).bad d = false) : wlk1 k t cs d c = ((wlk cs (d + 1) (c.add d t)).1, (wlk cs (d + 1) (c.add d t)).2.1, k :: (wlk cs (d + 1) (c.add d t)).2.2) := by
  unfold wlk1
  simp [h]
theorem wlk_len : ∀ (f : Fo) (d : Int) (q : Cnt), (wlk f d q).2.1 = true → ((wlk f d q).2.2.length : Int) + q.nodes = (wlk f d q).1.nodes
  | .nil, _, _, _ => by simp [wlk]
  | .cons k n t cs r, d, q, h => by
    by_cases hb : (q.add d t).bad d = true
    · rw [wlk] at h; simp [hb] at h
    · rw [wlk] at h ⊢
      simp only [hb, Bool.false_eq_true, if_false] at h ⊢
      by_cases hc : (wlk cs (d + 1) (q.add d t)).2.1 = true
      · simp only [hc, if_true] at h ⊢
        have h1 := wlk_len cs (d + 1) (q.add d t) hc
        have h2 := wlk_len r d _ h
        have e1 : (q.add d t).nodes = q.nodes + 1 := rfl
        simp only [List.length_cons, List.length_append]
        omega
      · simp [hc] at h
theorem wlk1_len {k t cs d} {q : Cnt} (h : (wlk1 k t cs d q).2.1 = true) : ((wlk1 k t cs d q).2.2.length : Int) + q.nodes = (wlk1 k t cs d q).1.nodes := by
  by_cases hb : (q.add d t).bad d = true
  · rw [wlk1, if_pos hb] at h; simp at h
  · have hb : (q.add d t).bad d = false := by simpa using hb
    rw [wlk1_good hb] at h ⊢
    have h1 := wlk_len cs (d + 1) (q.add d t) h
    have e1 : (q.add d t).nodes = q.nodes + 1 := rfl
    simp only [List.length_cons]
    omega
/-- From the j-th on: what is known of the whole. -/
def Part (c : Fo) (d : Int) (q : Cnt) (j : Nat) (qj : Cnt) (lj : List ByteArray) : Prop := wlk c d q = ((wlk (c.drop j) d qj).1, (wlk (c.drop j) d qj).2.1, lj ++ (wlk (c.drop j) d qj).2.2)
theorem Part.start (c : Fo) (d : Int) (q : Cnt) : Part c d q 0 q [] := by simp [Part, Fo.drop]
theorem Part.step {c : Fo} {d : Int} {q : Cnt} {j : Nat} {qj q2 : Cnt} {lj l2 : List ByteArray} {k n t cs r} (h : Part c d q j qj lj) (hd : c.drop j = .cons k n t cs r) (hr : wlk1 k t cs d qj = (q2, true, l2)) : Part c d q (j + 1) q2 (lj ++ l2) := by
  unfold Part at h ⊢
  rw [hd, wlk_cons_true (by rw [hr]), hr] at h
  rw [Fo.drop_step hd, h]
  simp
theorem Part.stop {c : Fo} {d : Int} {q : Cnt} {j : Nat} {qj q2 : Cnt} {lj l2 : List ByteArray} {k n t cs r} (h : Part c d q j qj lj) (hd : c.drop j = .cons k n t cs r) (hr : wlk1 k t cs d qj = (q2, false, l2)) : wlk c d q = (q2, false, lj ++ l2) := by
  unfold Part at h
  rw [hd, wlk_cons_false (by rw [hr]), hr] at h
  exact h
theorem Part.done {c : Fo} {d : Int} {q : Cnt} {j : Nat} {qj : Cnt} {lj : List ByteArray} (h : Part c d q j qj lj) (hj : c.len ≤ j) : wlk c d q = (qj, true, lj) := by
  unfold Part at h
  rw [Fo.drop_len_le hj] at h
  simpa [wlk] using h

/-- The boxes of one call of walk: h: see; then nodes, depth, bytes; then down. -/
structure Boxes (W : World) (h : Nat) (q : Cnt) (see down : Value) : Prop where
  size : h + 4 < W.heap.size
  see : W.cell? ⟨h, 0, none⟩ = some see
  nodes : W.cell? ⟨h + 1, 0, none⟩ = some (.int .i64 q.nodes)
  depth : W.cell? ⟨h + 2, 0, none⟩ = some (.int .i64 q.depth)
  bytes : W.cell? ⟨h + 3, 0, none⟩ = some (.int .i64 q.bytes)
  down : W.cell? ⟨h + 4, 0, none⟩ = some down
  fn : W.frozen? ⟨h + 1, 0, none⟩ = false
  fd : W.frozen? ⟨h + 2, 0, none⟩ = false
  fb : W.frozen? ⟨h + 3, 0, none⟩ = false
theorem Boxes.keeps {W W1 : World} {h : Nat} {q : Cnt} {see down : Value} {S : Nat → Prop} (hB : Boxes W h q see down) (hk : Keeps S W W1) (hS : ∀ b, S b → b < h ∨ h + 5 ≤ b) : Boxes W1 h q see down := by
  have hn : ∀ j, j < 5 → ¬ S (h + j) := fun j _ hs => by have := hS _ hs; omega
  have hl := hB.size
  exact ⟨Nat.lt_of_lt_of_le hl hk.size, (hk.cell (p := ⟨h, 0, none⟩) (by show h < _; omega) (hn 0 (by omega))).trans hB.see, (hk.cell (p := ⟨h + 1, 0, none⟩) (by show h + 1 < _; omega) (hn 1 (by omega))).trans hB.nodes,
    (hk.cell (p := ⟨h + 2, 0, none⟩) (by show h + 2 < _; omega) (hn 2 (by omega))).trans hB.depth, (hk.cell (p := ⟨h + 3, 0, none⟩) (by show h + 3 < _; omega) (hn 3 (by omega))).trans hB.bytes, (hk.cell (p := ⟨h + 4, 0, none⟩) (by show h + 4 < _; omega) (hn 4 (by omega))).trans hB.down,
    (hk.frozen (p := ⟨h + 1, 0, none⟩) (by show h + 1 < _; omega) (hn 1 (by omega))).trans hB.fn, (hk.frozen (p := ⟨h + 2, 0, none⟩) (by show h + 2 < _; omega) (hn 2 (by omega))).trans hB.fd, (hk.frozen (p := ⟨h + 3, 0, none⟩) (by show h + 3 < _; omega) (hn 3 (by omega))).trans hB.fb⟩
end Go.Proofs.Ytnphhibfiklfjaa

/-!
  What walk reckons, told by the tree's own numbers.
-/
namespace Go.Proofs.Ytnphhibfiklfjaa

open Go.RowKit

namespace Fo

def bytes : Fo → Nat
  | nil => 0
  | cons _ _ t c r => t.size + c.bytes + r.bytes
/-- How deep; none: nothing. -/
def depth : Fo → Nat
  | nil => 0
  | cons _ _ _ c r => max (c.depth + 1) r.depth
/-- The kinds, each ahead of its kids'. -/
def kinds : Fo → List ByteArray
  | nil => []
  | cons k _ _ c r => k :: c.kinds ++ r.kinds
end Fo

def mx2 (a b : Int) : Int := if a < b then b else a
theorem mx2_max (a b : Int) : mx2 a b = max a b := by unfold mx2; split <;> omega
theorem good_of {q : Cnt} {d : Int} {t : ByteArray} (h1 : q.nodes + 1 ≤ 1024) (h2 : d ≤ 64) (h3 : q.bytes + t.size ≤ 16384) : (q.add d t).bad d = false := by
  cases hb : (q.add d t).bad d with
  | false => rfl
  | true => have := Cnt.bad_cases hb; omega
theorem Fo.depth_cons (k n t c r) : 0 < (Fo.cons k n t c r).depth := by simp only [Fo.depth]; omega
/-- It goes through just where nothing is too great; and then it has counted all. -/
theorem wlk_true : ∀ (f : Fo) (d : Int) (q : Cnt), 0 ≤ q.nodes → q.nodes ≤ 1024 → 0 ≤ q.bytes → q.bytes ≤ 16384 → (q.nodes + f.nodes ≤ 1024 ∧ (0 < f.depth → d + f.depth ≤ 65) ∧ q.bytes + f.bytes ≤ 16384) →
    wlk f d q = (⟨q.nodes + f.nodes, if f.depth = 0 then q.depth else mx2 q.depth (d + f.depth - 1), q.bytes + f.bytes⟩, true, f.kinds)
  | .nil, d, q, _, _, _, _, _ => by simp [wlk, Fo.nodes, Fo.bytes, Fo.kinds, Fo.depth]
  | .cons k n t c r, d, q, h1, h2, h3, h4, ⟨g1, g2, g3⟩ => by
    have g2 := g2 (Fo.depth_cons _ _ _ _ _)
    simp only [Fo.nodes, Fo.depth, Fo.bytes] at g1 g2 g3
    have hb : (q.add d t).bad d = false := good_of (by omega) (by omega) (by omega)
    have e1 : (q.add d t).nodes = q.nodes + 1 := rfl
    have e2 : (q.add d t).bytes = q.bytes + t.size := rfl
    have e3 : (q.add d t).depth = mx2 q.depth d := rfl
    have hc := wlk_true c (d + 1) (q.add d t) (by omega) (by omega) (by omega) (by omega) ⟨by omega, fun _ => by omega, by omega⟩
    rw [e1, e2, e3] at hc
    have hr := wlk_true r d ⟨q.nodes + 1 + c.nodes, if c.depth = 0 then mx2 q.depth d else mx2 (mx2 q.depth d) (d + 1 + c.depth - 1), q.bytes + t.size + c.bytes⟩ (by show 0 ≤ q.nodes + 1 + c.nodes; omega) (by show q.nodes + 1 + c.nodes ≤ 1024; omega) (by show 0 ≤ q.bytes + t.size + c.bytes; omega) (by show q.bytes + t.size + c.bytes ≤ 16384; omega)
      ⟨by show q.nodes + 1 + c.nodes + r.nodes ≤ 1024; omega, fun _ => by omega, by show q.bytes + t.size + c.bytes + r.bytes ≤ 16384; omega⟩
    rw [wlk]
    simp only [hb, Bool.false_eq_true, if_false, hc, if_true, hr, Fo.nodes, Fo.bytes, Fo.kinds]
    refine Prod.ext ?_ rfl
    have hp := Fo.depth_cons k n t c r
    rw [if_neg (show ¬ (Fo.cons k n t c r).depth = 0 by omega)]
    simp only [Cnt.mk.injEq]
    refine ⟨by omega, ?_, by omega⟩
    simp only [Fo.depth]
    by_cases hcn : c.depth = 0 <;> by_cases hrn : r.depth = 0
    · simp only [hcn, hrn, if_true, mx2]; repeat' split
      all_goals omega
    · simp only [hcn, hrn, if_true, if_false, mx2]; repeat' split
      all_goals omega
    · simp only [hcn, hrn, if_true, if_false, mx2]; repeat' split
      all_goals omega
    · simp only [hcn, hrn, if_false, mx2_max]
      omega
theorem wlk_only : ∀ (f : Fo) (d : Int) (q : Cnt), 0 ≤ q.nodes → q.nodes ≤ 1024 → 0 ≤ q.bytes → q.bytes ≤ 16384 → (wlk f d q).2.1 = true → q.nodes + f.nodes ≤ 1024 ∧ (0 < f.depth → d + f.depth ≤ 65) ∧ q.bytes + f.bytes ≤ 16384
  | .nil, d, q, _, h2, _, h4, _ => by simp [Fo.nodes, Fo.bytes, Fo.depth]; omega
  | .cons k n t c r, d, q, h1, h2, h3, h4, ht => by
    by_cases hb : (q.add d t).bad d = true
    · rw [wlk] at ht; simp [hb] at ht
    · have hb : (q.add d t).bad d = false := by simpa using hb
      obtain ⟨b1, b2, b3⟩ := Cnt.good_cases hb
      rw [wlk] at ht
      simp only [hb, Bool.false_eq_true, if_false] at ht
      by_cases hc : (wlk c (d + 1) (q.add d t)).2.1 = true
      · simp only [hc, if_true] at ht
        have e1 : (q.add d t).nodes = q.nodes + 1 := rfl
        have e2 : (q.add d t).bytes = q.bytes + t.size := rfl
        have ic := wlk_only c (d + 1) (q.add d t) (by omega) (by omega) (by omega) (by omega) hc
        rw [wlk_true c (d + 1) (q.add d t) (by omega) (by omega) (by omega) (by omega) ic] at ht
        rw [e1, e2] at ic ht
        have ir := wlk_only r d _ (by show 0 ≤ q.nodes + 1 + c.nodes; omega) (by show q.nodes + 1 + c.nodes ≤ 1024; omega) (by show 0 ≤ q.bytes + t.size + c.bytes; omega) (by show q.bytes + t.size + c.bytes ≤ 16384; omega) ht
        have ir1 : q.nodes + 1 + c.nodes + r.nodes ≤ 1024 := ir.1
        have ir2 := ir.2.1
        have ic2 := ic.2.1
        have ir3 : q.bytes + t.size + c.bytes + r.bytes ≤ 16384 := ir.2.2
        refine ⟨by simp only [Fo.nodes]; omega, fun _ => ?_, by simp only [Fo.bytes]; omega⟩
        simp only [Fo.depth]
        omega
      · simp [hc] at ht

/-- A tree's numbers. -/
def Nd.nodes (x : Nd) : Nat := x.c.nodes + 1
def Nd.depth (x : Nd) : Nat := x.c.depth + 1
def Nd.bytes (x : Nd) : Nat := x.t.size + x.c.bytes
def Nd.small (x : Nd) : Prop := x.nodes ≤ 1024 ∧ x.depth ≤ 64 ∧ x.bytes ≤ 16384
instance (x : Nd) : Decidable x.small := by unfold Nd.small; infer_instance
theorem wlk1_small (x : Nd) (h : x.small) : wlk1 x.k x.t x.c 1 ⟨0, 0, 0⟩ = (⟨x.nodes, x.depth, x.bytes⟩, true, x.k :: x.c.kinds) := by
  obtain ⟨h1, h2, h3⟩ := h
  simp only [Nd.nodes, Nd.depth, Nd.bytes] at h1 h2 h3
  have hb : ((⟨0, 0, 0⟩ : Cnt).add 1 x.t).bad 1 = false := good_of (by show (0 : Int) + 1 ≤ 1024; omega) (by omega) (by show (0 : Int) + x.t.size ≤ 16384; omega)
  rw [wlk1_good hb]
  have e1 : ((⟨0, 0, 0⟩ : Cnt).add 1 x.t).nodes = 1 := rfl
  have e2 : ((⟨0, 0, 0⟩ : Cnt).add 1 x.t).bytes = x.t.size := by simp [Cnt.add]
  have e3 : ((⟨0, 0, 0⟩ : Cnt).add 1 x.t).depth = 1 := rfl
  have hw := wlk_true x.c (1 + 1) ((⟨0, 0, 0⟩ : Cnt).add 1 x.t) (by omega) (by omega) (by omega) (by omega) ⟨by omega, fun _ => by omega, by omega⟩
  rw [hw, e1, e2, e3]
  refine Prod.ext ?_ rfl
  simp only [Cnt.mk.injEq, Nd.nodes, Nd.depth, Nd.bytes]
  refine ⟨by omega, ?_, by omega⟩
  by_cases hc : x.c.depth = 0
  · simp [hc]
  · simp only [hc, if_false, mx2]; split <;> omega
theorem wlk1_great (x : Nd) (h : ¬ x.small) : (wlk1 x.k x.t x.c 1 ⟨0, 0, 0⟩).2.1 = false := by
  cases ht : (wlk1 x.k x.t x.c 1 ⟨0, 0, 0⟩).2.1 with
  | false => rfl
  | true =>
    exfalso
    apply h
    by_cases hb : ((⟨0, 0, 0⟩ : Cnt).add 1 x.t).bad 1 = true
    · rw [wlk1, if_pos hb] at ht; simp at ht
    · have hb : ((⟨0, 0, 0⟩ : Cnt).add 1 x.t).bad 1 = false := by simpa using hb
      rw [wlk1_good hb] at ht
      obtain ⟨b1, b2, b3⟩ := Cnt.good_cases hb
      have b3 : (0 : Int) + x.t.size ≤ 16384 := b3
      have e1 : ((⟨0, 0, 0⟩ : Cnt).add 1 x.t).nodes = 1 := rfl
      have e2 : ((⟨0, 0, 0⟩ : Cnt).add 1 x.t).bytes = x.t.size := by simp [Cnt.add]
      have hw := wlk_only x.c (1 + 1) _ (by omega) (by omega) (by omega) (by omega) ht
      rw [e1, e2] at hw
      have h2 := hw.2.1
      refine ⟨by simp only [Nd.nodes]; omega, by simp only [Nd.depth]; omega, by simp only [Nd.bytes]; omega⟩
end Go.Proofs.Ytnphhibfiklfjaa

/-!
  A range over a function whose values lie in memory: what the iterator promises its rounds, what the rounds promise the iterator.
-/
namespace Go.Proofs.Ytnphhibfiklfjaa

open Go.RowKit Go.Shelf

theorem Keeps.putObj (w : World) (l : Nat) (o : Obj) : Keeps (fun b => b = l) w (w.putObj l o) :=
  ⟨rfl, rfl, rfl, by simp, fun _ _ hn => World.putObj_heap_other hn⟩
/-- What hangs on the blocks of B alone. -/
def Stab (J : (Nat → Prop) → World → Prop) : Prop := ∀ B W W', J B W → Keeps (fun b => ¬ B b) W W' → J B W'
/-- What a round owes: B: the blocks that are its own; Y: those that it is handed. -/
def RoundR (J : (Nat → Prop) → World → Prop) (Jx : (Nat → Prop) → World → Prop) (B Y : Nat → Prop) (W : World) (e : Ending) (W' : World) : Prop :=
  ∃ B', (∀ b, B' b → (B b ∨ Y b ∨ W.heap.size ≤ b) ∧ b < W'.heap.size) ∧ Keeps (fun b => B b ∨ Y b) W W' ∧ ((e = .returned (.bool true) ∧ J B' W') ∨ (e = .returned (.bool false) ∧ Jx B' W'))
/-- An iterator of N rounds: It: the blocks that it reads; G j vs Y W: the j-th round's values, in blocks of Y, in world W. -/
def IterOK (P : Program) (gf : Nat) (lb : Array Value) (N : Nat) (G : Nat → Array Value → (Nat → Prop) → World → Prop) (It : Nat → Prop) (w : World) : Prop :=
  ∀ (n l : Nat) (J : Nat → (Nat → Prop) → World → Prop) (Jx : (Nat → Prop) → World → Prop) (B0 : Nat → Prop) (W : World), (∀ j, Stab (J j)) → Stab Jx → Keeps (fun b => ¬ It b) w W →
    (∀ b, B0 b → b < W.heap.size ∧ ¬ It b) → J 0 B0 W →
    (∀ m j B Y vs W1, j < N → (∀ b, B b → b < W1.heap.size) → J j B W1 → G j vs Y W1 → (∀ b, Y b → ¬ B b ∧ W.heap.size ≤ b ∧ b < W1.heap.size) → W.heap.size ≤ W1.heap.size → Keeps (fun b => ¬ It b) w W1 → YieldAt Fence.wide m P l vs W1 (RoundR (J (j + 1)) Jx B Y W1)) →
    CallsIn Fence.wide n P gf (#[.func (.yield l) #[] #[]] ++ lb) W fun e W' => (∃ v, e = .returned v) ∧ (∃ B', J N B' W' ∨ Jx B' W') ∧ Keeps (fun b => ¬ It b) w W' ∧ W.heap.size ≤ W'.heap.size

/-- How the body of a round may be left. -/
def bodyR (J : Nat → (Nat → Prop) → World → Prop) (Jx : Code → (Nat → Prop) → World → Prop) (j : Nat) (B Y : Nat → Prop) (W W2 : World) : Exit → Act → World → Prop
  | .normal, _, W' => ∃ B', (∀ b, B' b → (B b ∨ Y b ∨ W.heap.size ≤ b) ∧ b < W'.heap.size) ∧ Keeps (fun b => B b ∨ Y b) W2 W' ∧ J (j + 1) B' W'
  | .ret, _, W' => ∃ B', (∀ b, B' b → (B b ∨ Y b ∨ W.heap.size ≤ b) ∧ b < W'.heap.size) ∧ Keeps (fun b => B b ∨ Y b) W2 W' ∧ Jx .ret B' W'
  | .exit id, _, W' => ∃ B', (∀ b, B' b → (B b ∨ Y b ∨ W.heap.size ≤ b) ∧ b < W'.heap.size) ∧ Keeps (fun b => B b ∨ Y b) W2 W' ∧ Jx (.exit id) B' W'
  | .goto t, _, W' => ∃ B', (∀ b, B' b → (B b ∨ Y b ∨ W.heap.size ≤ b) ∧ b < W'.heap.size) ∧ Keeps (fun b => B b ∨ Y b) W2 W' ∧ Jx (.goto t) B' W'
  | _, _, _ => False

theorem roundAny {m m' : Nat} {P : Program} {l : Nat} {f : FuncId} {tmps : Array Value} {assign body : Code} {w : World} {R : Ending → World → Prop}
    (h : RoundIn Fence.wide m P l f tmps assign body w R) : RoundIn Fence.wide m' P l f tmps assign body w R := ⟨h.1, fun c cs _ => h.2 c cs (room_wide _)⟩
theorem range_law2 {P : Program} {g : Operand} {ps : Array Tmp} {assign body : Code} {Q : Exit → Act → World → Prop} {a : Act} {w : World} (n : Nat)
    {gf : Nat} {lb : Array Value} (hg : a.eval g = .func (.func gf) #[] lb) (eg : ∀ args w, (callFunc gf args).run P w = .ok (.enter gf args) w)
    {N : Nat} {G : Nat → Array Value → (Nat → Prop) → World → Prop} {It : Nat → Prop} {w0 : World} (hit : IterOK P gf lb N G It w0) (hk0 : Keeps (fun b => ¬ It b) w0 w) (hIt0 : ∀ b, It b → b < w0.heap.size)
    (hps : ∀ j vs Y W, G j vs Y W → vs.size = ps.size)
    (J : Nat → (Nat → Prop) → World → Prop) (Jx : Code → (Nat → Prop) → World → Prop) (hJ : ∀ j, Stab (J j)) (hJx : ∀ c, Stab (Jx c)) (B0 : Nat → Prop) (hB0 : ∀ b, B0 b → b < w.heap.size ∧ ¬ It b) (h0 : J 0 B0 w)
    (hround : ∀ j B Y vs W, j < N → (∀ b, B b → b < W.heap.size) → J j B W → G j vs Y W → (∀ b, Y b → ¬ B b ∧ w.heap.size + 1 < b ∧ b < W.heap.size) → (∀ b, B b → b ≠ w.heap.size ∧ b ≠ w.heap.size + 1) → w.heap.size + 1 < W.heap.size → Keeps (fun b => ¬ It b) w0 W →
      assign.wpIn (Fence.wide.inRound (w.heap.size + 1)) n P (Exit.then (fun a₁ W₁ => Keeps (fun b => B b ∨ Y b) W W₁ ∧ ∀ W₂, Keeps (fun b => b = w.heap.size + 1) W₁ W₂ → (∃ r, W₂.heap[w.heap.size + 1]? = some (.loop r)) → body.wpIn (Fence.wide.inRound (w.heap.size + 1)) n P (bodyR J Jx j B Y W W₂) a₁ W₂) (fun _ _ _ => False))
        { tmps := (ps.zip vs).foldl (fun t (p, v) => t.setIfInBounds p v) a.tmps, defers := [] } W)
    (hdone : ∀ (B : Nat → Prop) (W : World), J N B W → W.heap[w.heap.size]? = some (.deferred (some [])) → Keeps (fun b => ¬ It b) w W → (∀ b, B b → b ≠ w.heap.size) → Q .normal { a with defers := { target := .collected w.heap.size, args := #[] } :: a.defers } W)
    (hstop : ∀ (c : Code) (B : Nat → Prop) (W : World), Jx c B W → W.heap[w.heap.size]? = some (.deferred (some [])) → Keeps (fun b => ¬ It b) w W → (∀ b, B b → b ≠ w.heap.size) → c.wpIn Fence.wide (n + 2) P Q { a with defers := { target := .collected w.heap.size, args := #[] } :: a.defers } W) :
    (Code.rangeFunc g ps assign body).wpIn Fence.wide (n + 2) P Q a w := by
  have hItl : ∀ b, It b → b < w.heap.size := fun b hb => Nat.lt_of_lt_of_le (hIt0 b hb) hk0.size
  refine wpIn_rangeFunc ?_
  intro fn hfn
  obtain ⟨rec, hrec⟩ : ∃ rec : LoopState → Option Code → Loop, rec = fun st pe => { state := st, pending := pe, fn, tmps := a.tmps, params := ps, assign, body, defers := w.heap.size } := ⟨_, rfl⟩
  obtain ⟨W1, hW1⟩ : ∃ W1, (w.alloc (.deferred (some []))).alloc (.loop (rec .ready none)) = W1 := ⟨_, rfl⟩
  have hL1 : W1.heap[w.heap.size + 1]? = some (.loop (rec .ready none)) := by
    rw [← hW1]; have := World.alloc_heap_new (w.alloc (.deferred (some []))) (.loop (rec .ready none)); rwa [World.size_alloc] at this
  have hD1 : W1.heap[w.heap.size]? = some (.deferred (some [])) := by
    rw [← hW1]; exact (Below.heap_alloc _ _ _ (by simp)).trans (World.alloc_heap_new w _)
  have hK1 : Keeps (fun _ => False) w W1 := by rw [← hW1]; exact ((Keeps.refl _ w).alloc _).alloc _
  have hs1 : W1.heap.size = w.heap.size + 2 := by rw [← hW1]; simp
  refine ⟨w.heap.size + 1, [{ target := .collected w.heap.size, args := #[] }], W1, { target := .fn (.func gf) lb, args := #[.func (.yield (w.heap.size + 1)) #[] #[]] }, W1, gf,
    #[.func (.yield (w.heap.size + 1)) #[] #[]] ++ lb, W1, ?_, ?_, ?_, ?_, fun _ => by omega, ?_⟩
  · rw [← hW1, hrec]; exact run_enterLoop_outer _ _ _ _ _
  · simp only [resolve, hg]
    simp [go_sem]
  · intro f' hf'; exact trivial
  · simp [invoke, go_sem, eg]
  -- the caller's invariant, with the two blocks of book-keeping beside it
  let ex : (Nat → Prop) → Nat → Prop := fun B b => B b ∧ b ≠ w.heap.size ∧ b ≠ w.heap.size + 1
  let J' : Nat → (Nat → Prop) → World → Prop := fun j B W => J j (ex B) W ∧ B w.heap.size ∧ B (w.heap.size + 1) ∧ w.heap.size + 1 < W.heap.size ∧ W.heap[w.heap.size + 1]? = some (.loop (rec .ready none)) ∧ W.heap[w.heap.size]? = some (.deferred (some []))
  let Jx' : (Nat → Prop) → World → Prop := fun B W => ∃ c, Jx c (ex B) W ∧ B w.heap.size ∧ B (w.heap.size + 1) ∧ W.heap[w.heap.size + 1]? = some (.loop (rec .done (some c))) ∧ W.heap[w.heap.size]? = some (.deferred (some []))
  have hblk : ∀ {B : Nat → Prop} {W W' : World} {b : Nat} {o : Obj}, Keeps (fun b => ¬ B b) W W' → B b → W.heap[b]? = some o → W'.heap[b]? = some o := fun hk hb h => (hk.block _ (Array.getElem?_eq_some_iff.1 h).1 (fun h' => h' hb)).trans h
  have hexK : ∀ {B : Nat → Prop} {W W' : World}, Keeps (fun b => ¬ B b) W W' → Keeps (fun b => ¬ ex B b) W W' := fun hk => hk.mono fun b hb _ h => hb h.1
  have hJ' : ∀ j, Stab (J' j) := fun j B W W' ⟨h1, h2, h3, h4, h5, h6⟩ hk => ⟨hJ j _ _ _ h1 (hexK hk), h2, h3, Nat.lt_of_lt_of_le h4 hk.size, hblk hk h3 h5, hblk hk h2 h6⟩
  have hJx' : Stab Jx' := fun B W W' ⟨c, h1, h2, h3, h5, h6⟩ hk => ⟨c, hJx c _ _ _ h1 (hexK hk), h2, h3, hblk hk h3 h5, hblk hk h2 h6⟩
  let B1 : Nat → Prop := fun b => B0 b ∨ b = w.heap.size ∨ b = w.heap.size + 1
  have hexB1 : ex B1 = B0 := by
    funext b
    apply propext
    constructor
    · rintro ⟨h | h | h, h2, h3⟩
      · exact h
      · exact absurd h h2
      · exact absurd h h3
    · intro h
      have := (hB0 b h).1
      exact ⟨.inl h, by omega, by omega⟩
  have hIt1 : Keeps (fun b => ¬ It b) w0 W1 := hk0.trans (hK1.mono fun _ h _ => h.elim)
  refine (hit _ (w.heap.size + 1) J' Jx' B1 W1 hJ' hJx' hIt1 (fun b hb => ?_) ⟨?_, .inr (.inl rfl), .inr (.inr rfl), by omega, hL1, hD1⟩ ?_).mono ?_
  · rcases hb with hb | hb | hb
    · have := hB0 b hb; exact ⟨by omega, this.2⟩
    · exact ⟨by omega, fun h => by have := hItl b h; omega⟩
    · exact ⟨by omega, fun h => by have := hItl b h; omega⟩
  · rw [hexB1]; exact hJ 0 _ _ _ h0 (hK1.mono fun _ h _ => h.elim)
  · -- one round
    rintro m j B Y vs W hj hBl ⟨hj1, hbD, hbL, hsz, hl, hd⟩ hG hY hle hItW
    have hy := run_yield (P := P) (args := vs) hl (by rw [hrec]; exact hps j vs Y W hG)
    rw [hrec] at hy
    have hYD : ¬ Y w.heap.size ∧ ¬ Y (w.heap.size + 1) := ⟨fun h => by have := (hY _ h).2.1; omega, fun h => by have := (hY _ h).2.1; omega⟩
    refine ⟨fn, _, assign, body, hy, ?_⟩
    have hwr := hround j (ex B) Y vs W hj (fun b hb => hBl b hb.1) hj1 hG (fun b hb => ⟨fun h => (hY b hb).1 h.1, by have := (hY b hb).2; omega⟩) (fun b hb => hb.2) (by omega) hItW
    refine roundAny (m := n) (roundIn_of_wpIn (n := n) trivial (wpIn_mono hwr ?_))
    intro e a1 Wa hpost
    cases e with
    | normal =>
      obtain ⟨hka, hb2⟩ := hpost
      have hla : Wa.heap[w.heap.size + 1]? = some (.loop (rec .ready none)) := (hka.block _ hsz (fun h => h.elim (fun h => h.2.2 rfl) hYD.2)).trans hl
      have hda : Wa.heap[w.heap.size]? = some (.deferred (some [])) := (hka.block _ (by omega) (fun h => h.elim (fun h => h.2.1 rfl) hYD.1)).trans hd
      refine ⟨_, run_beginRound hla (by rw [hrec]), ?_⟩
      refine wpIn_mono (hb2 _ (Keeps.putObj _ _ _) ⟨_, World.putObj_heap_same (Nat.lt_of_lt_of_le hsz hka.size)⟩) ?_
      have hsza : w.heap.size + 1 < Wa.heap.size := Nat.lt_of_lt_of_le hsz hka.size
      have hl2 : (Wa.putObj (w.heap.size + 1) (.loop { rec .ready none with state := .busy })).heap[w.heap.size + 1]? = some (.loop { rec .ready none with state := .busy }) := World.putObj_heap_same hsza
      have hd2 : (Wa.putObj (w.heap.size + 1) (.loop { rec .ready none with state := .busy })).heap[w.heap.size]? = some (.deferred (some [])) := (World.putObj_heap_other (by omega)).trans hda
      -- the round's end
      have fin : ∀ (jump : Option Code) (B' : Nat → Prop) (W3 : World), (∀ b, B' b → (ex B b ∨ Y b ∨ W.heap.size ≤ b) ∧ b < W3.heap.size) → Keeps (fun b => ex B b ∨ Y b) (Wa.putObj (w.heap.size + 1) (.loop { rec .ready none with state := .busy })) W3 →
          ∃ W4, (Instr.endRound (w.heap.size + 1) jump).run P W3 = .ok (.bool jump.isNone) W4 ∧ W4.heap[w.heap.size + 1]? = some (.loop (rec (if jump.isNone then .ready else .done) jump)) ∧ W4.heap[w.heap.size]? = some (.deferred (some [])) ∧ w.heap.size + 1 < W4.heap.size ∧
            Keeps (fun b => b = w.heap.size + 1) W3 W4 ∧ Keeps (fun b => B b ∨ Y b) W W4 ∧ (∀ b, (B' b ∨ b = w.heap.size ∨ b = w.heap.size + 1) → (B b ∨ Y b ∨ W.heap.size ≤ b) ∧ b < W4.heap.size) ∧ ex (fun b => B' b ∨ b = w.heap.size ∨ b = w.heap.size + 1) = B' ∧ ¬ B' (w.heap.size + 1) := by
        intro jump B' W3 hB' hk3
        have hsz3 : w.heap.size + 1 < W3.heap.size := by have := hk3.size; simp at this; omega
        have hl3 : W3.heap[w.heap.size + 1]? = some (.loop { rec .ready none with state := .busy }) := (hk3.block _ (by simpa using hsza) (fun h => h.elim (fun h => h.2.2 rfl) hYD.2)).trans hl2
        have hd3 : W3.heap[w.heap.size]? = some (.deferred (some [])) := (hk3.block _ (by simp; omega) (fun h => h.elim (fun h => h.2.1 rfl) hYD.1)).trans hd2
        have hr := run_endRound (P := P) jump hl3
        rw [hrec] at hr
        have hk4 := Keeps.putObj W3 (w.heap.size + 1) (.loop (rec (if jump.isNone then .ready else .done) jump))
        have hkW : Keeps (fun b => B b ∨ Y b) W W3 :=
          ((hka.mono (S' := fun b => B b ∨ Y b) (fun b hb _ => hb.imp_left And.left)).trans' (Keeps.putObj Wa (w.heap.size + 1) _) (fun b hb _ => .inl (hb ▸ hbL))).trans' hk3 (fun b hb _ => hb.imp_left And.left)
        have hnD : ¬ B' w.heap.size := fun h => by
          rcases (hB' _ h).1 with h | h | h
          · exact h.2.1 rfl
          · exact hYD.1 h
          · omega
        have hnL : ¬ B' (w.heap.size + 1) := fun h => by
          rcases (hB' _ h).1 with h | h | h
          · exact h.2.2 rfl
          · exact hYD.2 h
          · omega
        refine ⟨W3.putObj (w.heap.size + 1) (.loop (rec (if jump.isNone then .ready else .done) jump)), by rw [hrec]; exact hr, World.putObj_heap_same hsz3, (World.putObj_heap_other (by omega)).trans hd3, by simpa using hsz3, hk4, hkW.trans' hk4 (fun b hb _ => .inl (hb ▸ hbL)), ?_, ?_, hnL⟩
        · rintro b (h | rfl | rfl)
          · exact ⟨(hB' _ h).1.imp_left And.left, by simpa using (hB' _ h).2⟩
          · exact ⟨.inl hbD, by simp; omega⟩
          · exact ⟨.inl hbL, by simpa using hsz3⟩
        · funext b
          apply propext
          constructor
          · rintro ⟨h | h | h, h2, h3⟩
            · exact h
            · exact absurd h h2
            · exact absurd h h3
          · intro h
            exact ⟨.inl h, fun e => hnD (e ▸ h), fun e => hnL (e ▸ h)⟩
      have stop : ∀ (c : Code) (B' : Nat → Prop) (W3 : World), (∀ b, B' b → (ex B b ∨ Y b ∨ W.heap.size ≤ b) ∧ b < W3.heap.size) → Keeps (fun b => ex B b ∨ Y b) (Wa.putObj (w.heap.size + 1) (.loop { rec .ready none with state := .busy })) W3 → Jx c B' W3 →
          ∃ v W4, (Instr.endRound (w.heap.size + 1) (some c)).run P W3 = .ok v W4 ∧ RoundR (J' (j + 1)) Jx' B Y W (.returned v) W4 := by
        intro c B' W3 hB' hk3 hj3
        obtain ⟨W4, hr, hl4, hd4, hs4, hk34, hkW, hBB, hex, hnL⟩ := fin (some c) B' W3 hB' hk3
        exact ⟨_, W4, hr, _, hBB, hkW, .inr ⟨rfl, c, by rw [hex]; exact hJx c _ _ _ hj3 (hk34.mono fun b hb _ h => hnL (hb ▸ h)), .inr (.inl rfl), .inr (.inr rfl), hl4, hd4⟩⟩
      rintro e a3 W3 hp
      cases e with
      | normal =>
        obtain ⟨B', hB', hk3, hj3⟩ := hp
        obtain ⟨W4, hr, hl4, hd4, hs4, hk34, hkW, hBB, hex, hnL⟩ := fin none B' W3 hB' hk3
        exact ⟨_, W4, hr, _, hBB, hkW, .inl ⟨rfl, by rw [hex]; exact hJ _ _ _ _ hj3 (hk34.mono fun b hb _ h => hnL (hb ▸ h)), .inr (.inl rfl), .inr (.inr rfl), hs4, hl4, hd4⟩⟩
      | ret =>
        obtain ⟨B', hB', hk3, hj3⟩ := hp
        exact stop .ret B' W3 hB' hk3 hj3
      | exit id =>
        obtain ⟨B', hB', hk3, hj3⟩ := hp
        exact stop (.exit id) B' W3 hB' hk3 hj3
      | goto t =>
        obtain ⟨B', hB', hk3, hj3⟩ := hp
        exact stop (.goto t) B' W3 hB' hk3 hj3
      | panic ch => exact hp.elim
      | outgrown => exact hp.elim
    | exit id => exact hpost.elim
    | goto t => exact hpost.elim
    | ret => exact hpost.elim
    | panic ch => exact hpost.elim
    | outgrown => exact hpost.elim
  · -- behind the iterator
    rintro e W2 ⟨⟨v, rfl⟩, ⟨B', hend⟩, hIt2, hsz⟩
    have hkE : ∀ o, Keeps (fun b => ¬ It b) w (W2.putObj (w.heap.size + 1) o) := fun o =>
      ⟨hIt2.os.trans hk0.os.symm, hIt2.tape.trans hk0.tape.symm, hIt2.output.trans hk0.output.symm, by simp; omega, fun b hb hI => (World.putObj_heap_other (by omega)).trans ((hIt2.block b (hIt0 b (Classical.not_not.1 hI)) hI).trans (hk0.block b (hIt0 b (Classical.not_not.1 hI)) hI).symm)⟩
    rcases hend with ⟨h1, h2, h3, h4, h5, h6⟩ | ⟨c, h1, h2, h3, h5, h6⟩
    · have hr := run_endLoop (P := P) h5 (by rw [hrec]; simp)
      rw [hrec] at hr
      exact ⟨none, _, hr, hdone _ _ (hJ N _ _ _ h1 ((Keeps.putObj _ _ _).mono fun b hb _ h => h.2.2 hb)) ((World.putObj_heap_other (by omega)).trans h6) (hkE _) (fun b hb => hb.2.1)⟩
    · have hr := run_endLoop (P := P) h5 (by rw [hrec]; simp)
      rw [hrec] at hr
      exact ⟨some c, _, hr, hstop c _ _ (hJx c _ _ _ h1 ((Keeps.putObj _ _ _).mono fun b hb _ h => h.2.2 hb)) ((World.putObj_heap_other (by omega)).trans h6) (hkE _) (fun b hb => hb.2.1)⟩
theorem range_law {P : Program} {g : Operand} {ps : Array Tmp} {assign body : Code} {Q : Exit → Act → World → Prop} {a : Act} {w : World} (n : Nat)
    {gf : Nat} {lb : Array Value} (hg : a.eval g = .func (.func gf) #[] lb) (eg : ∀ args w, (callFunc gf args).run P w = .ok (.enter gf args) w)
    {N : Nat} {G : Nat → Array Value → (Nat → Prop) → World → Prop} {It : Nat → Prop} {w0 : World} (hit : IterOK P gf lb N G It w0) (hk0 : Keeps (fun b => ¬ It b) w0 w) (hIt0 : ∀ b, It b → b < w0.heap.size)
    (hps : ∀ j vs Y W, G j vs Y W → vs.size = ps.size)
    (J : Nat → (Nat → Prop) → World → Prop) (Jx : Code → (Nat → Prop) → World → Prop) (hJ : ∀ j, Stab (J j)) (hJx : ∀ c, Stab (Jx c)) (B0 : Nat → Prop) (hB0 : ∀ b, B0 b → b < w.heap.size ∧ ¬ It b) (h0 : J 0 B0 w)
    (hround : ∀ j B Y vs W, j < N → (∀ b, B b → b < W.heap.size) → J j B W → G j vs Y W → (∀ b, Y b → ¬ B b ∧ w.heap.size + 1 < b ∧ b < W.heap.size) → (∀ b, B b → b ≠ w.heap.size ∧ b ≠ w.heap.size + 1) → w.heap.size + 1 < W.heap.size →
      assign.wpIn (Fence.wide.inRound (w.heap.size + 1)) n P (Exit.then (fun a₁ W₁ => Keeps (fun b => B b ∨ Y b) W W₁ ∧ ∀ W₂, Keeps (fun b => b = w.heap.size + 1) W₁ W₂ → body.wpIn (Fence.wide.inRound (w.heap.size + 1)) n P (bodyR J Jx j B Y W W₂) a₁ W₂) (fun _ _ _ => False))
        { tmps := (ps.zip vs).foldl (fun t (p, v) => t.setIfInBounds p v) a.tmps, defers := [] } W)
    (hdone : ∀ (B : Nat → Prop) (W : World), J N B W → W.heap[w.heap.size]? = some (.deferred (some [])) → Keeps (fun b => ¬ It b) w W → (∀ b, B b → b ≠ w.heap.size) → Q .normal { a with defers := { target := .collected w.heap.size, args := #[] } :: a.defers } W)
    (hstop : ∀ (c : Code) (B : Nat → Prop) (W : World), Jx c B W → W.heap[w.heap.size]? = some (.deferred (some [])) → Keeps (fun b => ¬ It b) w W → (∀ b, B b → b ≠ w.heap.size) → c.wpIn Fence.wide (n + 2) P Q { a with defers := { target := .collected w.heap.size, args := #[] } :: a.defers } W) :
    (Code.rangeFunc g ps assign body).wpIn Fence.wide (n + 2) P Q a w :=
  range_law2 n hg eg hit hk0 hIt0 hps J Jx hJ hJx B0 hB0 h0 (fun j B Y vs W h1 h2 h3 h4 h5 h6 h7 _ => wpIn_mono (hround j B Y vs W h1 h2 h3 h4 h5 h6 h7) (fun e a w hq => by
    cases e with
    | normal => exact ⟨hq.1, fun W₂ hk _ => hq.2 W₂ hk⟩
    | exit id => exact hq.elim
    | goto t => exact hq.elim
    | ret => exact hq.elim
    | panic ch => exact hq.elim
    | outgrown => exact hq.elim)) hdone hstop
theorem range_lawN {P : Program} {l₀ : Nat} {g : Operand} {ps : Array Tmp} {assign body : Code} {Q : Exit → Act → World → Prop} {a : Act} {w : World} (n : Nat) {r₀ : Loop} (hl₀ : w.heap[l₀]? = some (.loop r₀))
    {gf : Nat} {lb : Array Value} (hg : a.eval g = .func (.func gf) #[] lb) (eg : ∀ args w, (callFunc gf args).run P w = .ok (.enter gf args) w)
    {N : Nat} {G : Nat → Array Value → (Nat → Prop) → World → Prop} {It : Nat → Prop} {w0 : World} (hit : IterOK P gf lb N G It w0) (hk0 : Keeps (fun b => ¬ It b) w0 w) (hIt0 : ∀ b, It b → b < w0.heap.size)
    (hps : ∀ j vs Y W, G j vs Y W → vs.size = ps.size)
    (J : Nat → (Nat → Prop) → World → Prop) (Jx : Code → (Nat → Prop) → World → Prop) (hJ : ∀ j, Stab (J j)) (hJx : ∀ c, Stab (Jx c)) (B0 : Nat → Prop) (hB0 : ∀ b, B0 b → b < w.heap.size ∧ ¬ It b) (h0 : J 0 B0 w)
    (hround : ∀ j B Y vs W, j < N → (∀ b, B b → b < W.heap.size) → J j B W → G j vs Y W → (∀ b, Y b → ¬ B b ∧ w.heap.size < b ∧ b < W.heap.size) → (∀ b, B b → b ≠ w.heap.size) → w.heap.size < W.heap.size → Keeps (fun b => ¬ It b) w0 W →
      assign.wpIn (Fence.wide.inRound w.heap.size) n P (Exit.then (fun a₁ W₁ => Keeps (fun b => B b ∨ Y b) W W₁ ∧ ∀ W₂, Keeps (fun b => b = w.heap.size) W₁ W₂ → (∃ r, W₂.heap[w.heap.size]? = some (.loop r)) → body.wpIn (Fence.wide.inRound w.heap.size) n P (bodyR J Jx j B Y W W₂) a₁ W₂) (fun _ _ _ => False))
        { tmps := (ps.zip vs).foldl (fun t (p, v) => t.setIfInBounds p v) a.tmps, defers := [] } W)
    (hdone : ∀ (B : Nat → Prop) (W : World), J N B W → Keeps (fun b => ¬ It b) w W → (∀ b, B b → b ≠ w.heap.size) → Q .normal a W)
    (hstop : ∀ (c : Code) (B : Nat → Prop) (W : World), Jx c B W → Keeps (fun b => ¬ It b) w W → (∀ b, B b → b ≠ w.heap.size) → c.wpIn (Fence.wide.inRound l₀) (n + 2) P Q a W) :
    (Code.rangeFunc g ps assign body).wpIn (Fence.wide.inRound l₀) (n + 2) P Q a w := by
  have hItl : ∀ b, It b → b < w.heap.size := fun b hb => Nat.lt_of_lt_of_le (hIt0 b hb) hk0.size
  refine wpIn_rangeFunc ?_
  intro fn hfn
  obtain ⟨rec, hrec⟩ : ∃ rec : LoopState → Option Code → Loop, rec = fun st pe => { state := st, pending := pe, fn, tmps := a.tmps, params := ps, assign, body, defers := r₀.defers } := ⟨_, rfl⟩
  obtain ⟨W1, hW1⟩ : ∃ W1, w.alloc (.loop (rec .ready none)) = W1 := ⟨_, rfl⟩
  have hL1 : W1.heap[w.heap.size]? = some (.loop (rec .ready none)) := by rw [← hW1]; exact World.alloc_heap_new w _
  have hK1 : Keeps (fun _ => False) w W1 := by rw [← hW1]; exact (Keeps.refl _ w).alloc _
  have hs1 : W1.heap.size = w.heap.size + 1 := by rw [← hW1]; simp
  refine ⟨w.heap.size, [], W1, { target := .fn (.func gf) lb, args := #[.func (.yield w.heap.size) #[] #[]] }, W1, gf,
    #[.func (.yield w.heap.size) #[] #[]] ++ lb, W1, ?_, ?_, ?_, ?_, fun _ => by omega, ?_⟩
  · rw [← hW1, hrec]; exact run_enterLoop_inner hl₀ _ _ _ _ _
  · simp only [resolve, hg]
    simp [go_sem]
  · intro f' hf'; exact trivial
  · simp [invoke, go_sem, eg]
  let ex : (Nat → Prop) → Nat → Prop := fun B b => B b ∧ b ≠ w.heap.size
  let J' : Nat → (Nat → Prop) → World → Prop := fun j B W => J j (ex B) W ∧ B w.heap.size ∧ w.heap.size < W.heap.size ∧ W.heap[w.heap.size]? = some (.loop (rec .ready none))
  let Jx' : (Nat → Prop) → World → Prop := fun B W => ∃ c, Jx c (ex B) W ∧ B w.heap.size ∧ W.heap[w.heap.size]? = some (.loop (rec .done (some c)))
  have hblk : ∀ {B : Nat → Prop} {W W' : World} {b : Nat} {o : Obj}, Keeps (fun b => ¬ B b) W W' → B b → W.heap[b]? = some o → W'.heap[b]? = some o := fun hk hb h => (hk.block _ (Array.getElem?_eq_some_iff.1 h).1 (fun h' => h' hb)).trans h
  have hexK : ∀ {B : Nat → Prop} {W W' : World}, Keeps (fun b => ¬ B b) W W' → Keeps (fun b => ¬ ex B b) W W' := fun hk => hk.mono fun b hb _ h => hb h.1
  have hJ' : ∀ j, Stab (J' j) := fun j B W W' ⟨h1, h3, h4, h5⟩ hk => ⟨hJ j _ _ _ h1 (hexK hk), h3, Nat.lt_of_lt_of_le h4 hk.size, hblk hk h3 h5⟩
  have hJx' : Stab Jx' := fun B W W' ⟨c, h1, h3, h5⟩ hk => ⟨c, hJx c _ _ _ h1 (hexK hk), h3, hblk hk h3 h5⟩
  let B1 : Nat → Prop := fun b => B0 b ∨ b = w.heap.size
  have hexB1 : ex B1 = B0 := by
    funext b
    apply propext
    constructor
    · rintro ⟨h | h, h3⟩
      · exact h
      · exact absurd h h3
    · intro h
      have := (hB0 b h).1
      exact ⟨.inl h, by omega⟩
  have hIt1 : Keeps (fun b => ¬ It b) w0 W1 := hk0.trans (hK1.mono fun _ h _ => h.elim)
  refine CallsIn.inRound l₀ ((hit _ w.heap.size J' Jx' B1 W1 hJ' hJx' hIt1 (fun b hb => ?_) ⟨?_, .inr rfl, by omega, hL1⟩ ?_).mono ?_)
  · rcases hb with hb | hb
    · have := hB0 b hb; exact ⟨by omega, this.2⟩
    · exact ⟨by omega, fun h => by have := hItl b h; omega⟩
  · rw [hexB1]; exact hJ 0 _ _ _ h0 (hK1.mono fun _ h _ => h.elim)
  · -- one round
    rintro m j B Y vs W hj hBl ⟨hj1, hbL, hsz, hl⟩ hG hY hle hItW
    have hy := run_yield (P := P) (args := vs) hl (by rw [hrec]; exact hps j vs Y W hG)
    rw [hrec] at hy
    have hYD : ¬ Y w.heap.size := fun h => by have := (hY _ h).2.1; omega
    refine ⟨fn, _, assign, body, hy, ?_⟩
    have hwr := hround j (ex B) Y vs W hj (fun b hb => hBl b hb.1) hj1 hG (fun b hb => ⟨fun h => (hY b hb).1 h.1, by have := (hY b hb).2; omega⟩) (fun b hb => hb.2) (by omega) hItW
    refine roundAny (m := n) (roundIn_of_wpIn (n := n) trivial (wpIn_mono hwr ?_))
    intro e a1 Wa hpost
    cases e with
    | normal =>
      obtain ⟨hka, hb2⟩ := hpost
      have hla : Wa.heap[w.heap.size]? = some (.loop (rec .ready none)) := (hka.block _ hsz (fun h => h.elim (fun h => h.2 rfl) hYD)).trans hl
      refine ⟨_, run_beginRound hla (by rw [hrec]), ?_⟩
      have hsza : w.heap.size < Wa.heap.size := Nat.lt_of_lt_of_le hsz hka.size
      refine wpIn_mono (hb2 _ (Keeps.putObj _ _ _) ⟨_, World.putObj_heap_same hsza⟩) ?_
      have hl2 : (Wa.putObj w.heap.size (.loop { rec .ready none with state := .busy })).heap[w.heap.size]? = some (.loop { rec .ready none with state := .busy }) := World.putObj_heap_same hsza
      have fin : ∀ (jump : Option Code) (B' : Nat → Prop) (W3 : World), (∀ b, B' b → (ex B b ∨ Y b ∨ W.heap.size ≤ b) ∧ b < W3.heap.size) → Keeps (fun b => ex B b ∨ Y b) (Wa.putObj w.heap.size (.loop { rec .ready none with state := .busy })) W3 →
          ∃ W4, (Instr.endRound w.heap.size jump).run P W3 = .ok (.bool jump.isNone) W4 ∧ W4.heap[w.heap.size]? = some (.loop (rec (if jump.isNone then .ready else .done) jump)) ∧ w.heap.size < W4.heap.size ∧
            Keeps (fun b => b = w.heap.size) W3 W4 ∧ Keeps (fun b => B b ∨ Y b) W W4 ∧ (∀ b, (B' b ∨ b = w.heap.size) → (B b ∨ Y b ∨ W.heap.size ≤ b) ∧ b < W4.heap.size) ∧ ex (fun b => B' b ∨ b = w.heap.size) = B' ∧ ¬ B' w.heap.size := by
        intro jump B' W3 hB' hk3
        have hsz3 : w.heap.size < W3.heap.size := by have := hk3.size; simp at this; omega
        have hl3 : W3.heap[w.heap.size]? = some (.loop { rec .ready none with state := .busy }) := (hk3.block _ (by simpa using hsza) (fun h => h.elim (fun h => h.2 rfl) hYD)).trans hl2
        have hr := run_endRound (P := P) jump hl3
        rw [hrec] at hr
        have hk4 := Keeps.putObj W3 w.heap.size (.loop (rec (if jump.isNone then .ready else .done) jump))
        have hkW : Keeps (fun b => B b ∨ Y b) W W3 :=
          ((hka.mono (S' := fun b => B b ∨ Y b) (fun b hb _ => hb.imp_left And.left)).trans' (Keeps.putObj Wa w.heap.size _) (fun b hb _ => .inl (hb ▸ hbL))).trans' hk3 (fun b hb _ => hb.imp_left And.left)
        have hnL : ¬ B' w.heap.size := fun h => by
          rcases (hB' _ h).1 with h | h | h
          · exact h.2 rfl
          · exact hYD h
          · omega
        refine ⟨W3.putObj w.heap.size (.loop (rec (if jump.isNone then .ready else .done) jump)), by rw [hrec]; exact hr, World.putObj_heap_same hsz3, by simpa using hsz3, hk4, hkW.trans' hk4 (fun b hb _ => .inl (hb ▸ hbL)), ?_, ?_, hnL⟩
        · rintro b (h | rfl)
          · exact ⟨(hB' _ h).1.imp_left And.left, by simpa using (hB' _ h).2⟩
          · exact ⟨.inl hbL, by simpa using hsz3⟩
        · funext b
          apply propext
          constructor
          · rintro ⟨h | h, h3⟩
            · exact h
            · exact absurd h h3
          · intro h
            exact ⟨.inl h, fun e => hnL (e ▸ h)⟩
      have stop : ∀ (c : Code) (B' : Nat → Prop) (W3 : World), (∀ b, B' b → (ex B b ∨ Y b ∨ W.heap.size ≤ b) ∧ b < W3.heap.size) → Keeps (fun b => ex B b ∨ Y b) (Wa.putObj w.heap.size (.loop { rec .ready none with state := .busy })) W3 → Jx c B' W3 →
          ∃ v W4, (Instr.endRound w.heap.size (some c)).run P W3 = .ok v W4 ∧ RoundR (J' (j + 1)) Jx' B Y W (.returned v) W4 := by
        intro c B' W3 hB' hk3 hj3
        obtain ⟨W4, hr, hl4, hs4, hk34, hkW, hBB, hex, hnL⟩ := fin (some c) B' W3 hB' hk3
        exact ⟨_, W4, hr, _, hBB, hkW, .inr ⟨rfl, c, by rw [hex]; exact hJx c _ _ _ hj3 (hk34.mono fun b hb _ h => hnL (hb ▸ h)), .inr rfl, hl4⟩⟩
      rintro e a3 W3 hp
      cases e with
      | normal =>
        obtain ⟨B', hB', hk3, hj3⟩ := hp
        obtain ⟨W4, hr, hl4, hs4, hk34, hkW, hBB, hex, hnL⟩ := fin none B' W3 hB' hk3
        exact ⟨_, W4, hr, _, hBB, hkW, .inl ⟨rfl, by rw [hex]; exact hJ _ _ _ _ hj3 (hk34.mono fun b hb _ h => hnL (hb ▸ h)), .inr rfl, hs4, hl4⟩⟩
      | ret =>
        obtain ⟨B', hB', hk3, hj3⟩ := hp
        exact stop .ret B' W3 hB' hk3 hj3
      | exit id =>
        obtain ⟨B', hB', hk3, hj3⟩ := hp
        exact stop (.exit id) B' W3 hB' hk3 hj3
      | goto t =>
        obtain ⟨B', hB', hk3, hj3⟩ := hp
        exact stop (.goto t) B' W3 hB' hk3 hj3
      | panic ch => exact hp.elim
      | outgrown => exact hp.elim
    | exit id => exact hpost.elim
    | goto t => exact hpost.elim
    | ret => exact hpost.elim
    | panic ch => exact hpost.elim
    | outgrown => exact hpost.elim
  · -- behind the iterator
    rintro e W2 ⟨⟨v, rfl⟩, ⟨B', hend⟩, hIt2, hsz⟩
    have hkE : ∀ o, Keeps (fun b => ¬ It b) w (W2.putObj w.heap.size o) := fun o =>
      ⟨hIt2.os.trans hk0.os.symm, hIt2.tape.trans hk0.tape.symm, hIt2.output.trans hk0.output.symm, by simp; omega, fun b hb hI => (World.putObj_heap_other (by omega)).trans ((hIt2.block b (hIt0 b (Classical.not_not.1 hI)) hI).trans (hk0.block b (hIt0 b (Classical.not_not.1 hI)) hI).symm)⟩
    rcases hend with ⟨h1, h3, h4, h5⟩ | ⟨c, h1, h3, h5⟩
    · have hr := run_endLoop (P := P) h5 (by rw [hrec]; simp)
      rw [hrec] at hr
      exact ⟨none, _, hr, hdone _ _ (hJ N _ _ _ h1 ((Keeps.putObj _ _ _).mono fun b hb _ h => h.2 hb)) (hkE _) (fun b hb => hb.2)⟩
    · have hr := run_endLoop (P := P) h5 (by rw [hrec]; simp)
      rw [hrec] at hr
      exact ⟨some c, _, hr, hstop c _ _ (hJx c _ _ _ h1 ((Keeps.putObj _ _ _).mono fun b hb _ h => h.2 hb)) (hkE _) (fun b hb => hb.2)⟩
/-- A function's contract where its body holds a range over a function. -/
theorem calls_marks {P : Program} {f : FuncId} {fn : Func} {c : Code} {args : Array Value} {w : World} {R : Ending → World → Prop} (hf : P.funcs[f]? = some fn) (hb : fn.body = some c)
    (h : c.wp P (bodyPostM Fence.wide 3 P fn R) { tmps := args ++ Array.replicate (fn.ntmps - args.size) undef, defers := [] } w) : Calls P f args w R :=
  callsIn_wide.1 (callsIn_of_wp_marks (F := Fence.wide) (n := 3) hf hb trivial (wpIn_wide.2 h) rfl)
/-- It returns, one mark laid. -/
theorem ret_mark {P : Program} {fn : Func} {R : Ending → World → Prop} {tmps : Array Value} {D : Nat} {W : World} {v : Value} {n : Nat} (hD : W.heap[D]? = some (.deferred (some [])))
    (hr : (results fn tmps).run P (W.putObj D (.deferred none)) = .ok v (W.putObj D (.deferred none))) (hR : R (.returned v) (W.putObj D (.deferred none))) :
    bodyPostM Fence.wide n P fn R .ret { tmps := tmps, defers := [{ target := .collected D, args := #[] }] } W := by
  refine ⟨by simp, .inl ⟨_, _, rfl, run_takeDeferred hD, ?_⟩⟩
  exact ⟨v, hr, hR⟩
theorem ret_plain {P : Program} {fn : Func} {R : Ending → World → Prop} {tmps : Array Value} {W : World} {v : Value} {n : Nat} (hr : (results fn tmps).run P W = .ok v W) (hR : R (.returned v) W) :
    bodyPostM Fence.wide n P fn R .ret { tmps := tmps, defers := [] } W := ⟨v, hr, hR⟩
end Go.Proofs.Ytnphhibfiklfjaa

/-!
  A tree put in the place of another one, in memory of its own.
-/
namespace Go.Proofs.Ytnphhibfiklfjaa

open Go.RowKit

namespace Fo

def set : Fo → Nat → Nd → Fo
  | nil, _, _ => nil
  | cons _ _ _ _ r, 0, x => cons x.k x.n x.t x.c r
  | cons k n t c r, i + 1, x => cons k n t c (r.set i x)
theorem len_set (f : Fo) (i : Nat) (x : Nd) : (f.set i x).len = f.len := by
  induction f generalizing i with
  | nil => rfl
  | cons k n t c r _ ih => cases i with
    | zero => rfl
    | succ i => simp [set, len, ih]
end Fo

/-- u in the place of what lies at the path. -/
def put : List Int → Nd → Nd → Nd
  | [], _, u => u
  | i :: r, x, u => match x.c.kid i with
    | some y => ⟨x.k, x.n, x.t, x.c.set i.toNat (put r y u)⟩
    | none => x

abbrev set4 (w : World) (b o : Nat) (v0 v1 v2 v3 : Value) : World := (((w.setCell ⟨b, o, none⟩ v0).setCell ⟨b, o + 1, none⟩ v1).setCell ⟨b, o + 2, none⟩ v2).setCell ⟨b, o + 3, none⟩ v3
theorem set4_heap {w : World} {b o : Nat} {v0 v1 v2 v3 : Value} {g : Nat} (h : g ≠ b) : (set4 w b o v0 v1 v2 v3).heap[g]? = w.heap[g]? := by
  rw [Below.heap_setCell _ _ _ _ h, Below.heap_setCell _ _ _ _ h, Below.heap_setCell _ _ _ _ h, Below.heap_setCell _ _ _ _ h]
theorem set4_size {w : World} {b o : Nat} {v0 v1 v2 v3 : Value} : (set4 w b o v0 v1 v2 v3).heap.size = w.heap.size := by simp [World.setCell]
theorem setCell_shape {w : World} {g : Nat} {cur : Array Value} {T : TypeId} (h : w.heap[g]? = some (.cells cur T (0, 0))) (a : Addr) (v : Value) : ∃ cur', (w.setCell a v).heap[g]? = some (.cells cur' T (0, 0)) ∧ cur'.size = cur.size := by
  by_cases hg : g = a.block
  · subst hg
    refine ⟨if a.spot.isSome then cur else cur.setIfInBounds a.off v, ?_, ?_⟩
    · simp [World.setCell, Array.getElem?_modify, h]
    · split <;> simp
  · exact ⟨cur, by rw [Below.heap_setCell _ _ _ _ hg]; exact h, rfl⟩
theorem set4_shape {w : World} {b o : Nat} {v0 v1 v2 v3 : Value} {g : Nat} {cur : Array Value} {T : TypeId} (h : w.heap[g]? = some (.cells cur T (0, 0))) : ∃ cur', (set4 w b o v0 v1 v2 v3).heap[g]? = some (.cells cur' T (0, 0)) ∧ cur'.size = cur.size := by
  obtain ⟨c1, h1, s1⟩ := setCell_shape h ⟨b, o, none⟩ v0
  obtain ⟨c2, h2, s2⟩ := setCell_shape h1 ⟨b, o + 1, none⟩ v1
  obtain ⟨c3, h3, s3⟩ := setCell_shape h2 ⟨b, o + 2, none⟩ v2
  obtain ⟨c4, h4, s4⟩ := setCell_shape h3 ⟨b, o + 3, none⟩ v3
  exact ⟨c4, h4, by omega⟩
theorem cell_other {w : World} {b o o' : Nat} {v : Value} (h : o ≠ o') : (w.setCell ⟨b, o, none⟩ v).cell? ⟨b, o', none⟩ = w.cell? ⟨b, o', none⟩ := World.cell?_setCell_other _ _ _ _ (by simp [h])
theorem set4_other {w : World} {b o : Nat} {v0 v1 v2 v3 : Value} {x : Nat} (h : x < o ∨ o + 4 ≤ x) : (set4 w b o v0 v1 v2 v3).cell? ⟨b, x, none⟩ = w.cell? ⟨b, x, none⟩ := by
  rw [cell_other (by omega), cell_other (by omega), cell_other (by omega), cell_other (by omega)]
theorem cell_same {w : World} {b o : Nat} {u v : Value} (h : w.cell? ⟨b, o, none⟩ = some u) : (w.setCell ⟨b, o, none⟩ v).cell? ⟨b, o, none⟩ = some v := World.cell?_setCell_same _ _ _ h
theorem set4_same {w : World} {b o : Nat} {v0 v1 v2 v3 u0 u1 u2 u3 : Value} (h0 : w.cell? ⟨b, o, none⟩ = some u0) (h1 : w.cell? ⟨b, o + 1, none⟩ = some u1) (h2 : w.cell? ⟨b, o + 2, none⟩ = some u2) (h3 : w.cell? ⟨b, o + 3, none⟩ = some u3) :
    (set4 w b o v0 v1 v2 v3).cell? ⟨b, o, none⟩ = some v0 ∧ (set4 w b o v0 v1 v2 v3).cell? ⟨b, o + 1, none⟩ = some v1 ∧ (set4 w b o v0 v1 v2 v3).cell? ⟨b, o + 2, none⟩ = some v2 ∧ (set4 w b o v0 v1 v2 v3).cell? ⟨b, o + 3, none⟩ = some v3 := by
  refine ⟨?_, ?_, ?_, ?_⟩
  · rw [cell_other (by omega), cell_other (by omega), cell_other (by omega)]; exact cell_same h0
  · rw [cell_other (by omega), cell_other (by omega)]; exact cell_same ((cell_other (by omega)).trans h1)
  · rw [cell_other (by omega)]; exact cell_same ((cell_other (by omega)).trans ((cell_other (by omega)).trans h2))
  · exact cell_same ((cell_other (by omega)).trans ((cell_other (by omega)).trans ((cell_other (by omega)).trans h3)))
/-- The i-th row's four cells and all that lies beneath, and how another one takes their place. -/
theorem RowRep.focus {w : World} : ∀ {i : Nat} {f : Fo} {xs : List Value} {bs : List Nat} {k n t c r}, RowRep w f xs bs → f.drop i = .cons k n t c r →
    ∃ pre post cp cl cc bsL bsM bsR, xs = pre ++ [.string k, .int .i64 n, .string t, .slice cp cl cc] ++ post ∧ pre.length = i * 4 ∧ bs = bsL ++ bsM ++ bsR ∧ Own w c cp cl cc bsM ∧ szok k t ∧
      ∀ (w' : World) (x : Nd) (cp' : Option Addr) (cl' cc' : Nat) (bsN : List Nat), (∀ b ∈ bsL ++ bsR, w'.heap[b]? = w.heap[b]?) → Own w' x.c cp' cl' cc' bsN → szok x.k x.t →
        RowRep w' (f.set i x) (pre ++ [.string x.k, .int .i64 x.n, .string x.t, .slice cp' cl' cc'] ++ post) (bsL ++ bsN ++ bsR)
  | i, .nil, _, _, _, _, _, _, _, _, hd => by rw [Fo.drop_nil] at hd; simp at hd
  | 0, .cons k n t c r, _, _, _, _, _, _, _, ⟨cp, cl, cc, ys, bs1, xs', bs2, hx, hbs, ht, ho, hc, hr⟩, hd => by
    simp only [Fo.drop] at hd
    injection hd with e1 e2 e3 e4 e5
    subst e1 e2 e3 e4 e5
    refine ⟨[], xs', cp, cl, cc, [], sb cp cl cc ++ bs1, bs2, by rw [hx]; rfl, rfl, by rw [hbs]; simp, ⟨ys, bs1, ho, hc, rfl⟩, ht, ?_⟩
    intro w' x cp' cl' cc' bsN hb ⟨ys', bs1', h1, h2, h3⟩ hs
    exact ⟨cp', cl', cc', ys', bs1', xs', bs2, rfl, by rw [h3]; simp, hs, h1, h2, hr.same (fun b hm => hb b (by simp [hm]))⟩
  | i + 1, .cons k0 n0 t0 c0 r0, _, _, k, n, t, c, r, ⟨cp0, cl0, cc0, ys, bs1, xs', bs2, hx, hbs, ht, ho, hc, hr⟩, hd => by
    obtain ⟨pre, post, cp, cl, cc, bsL, bsM, bsR, g1, g2, g3, g4, g5, g6⟩ := RowRep.focus (i := i) hr hd
    refine ⟨.string k0 :: .int .i64 n0 :: .string t0 :: .slice cp0 cl0 cc0 :: pre, post, cp, cl, cc, sb cp0 cl0 cc0 ++ bs1 ++ bsL, bsM, bsR, by rw [hx, g1]; rfl, by simp [g2, Nat.succ_mul], by rw [hbs, g3]; simp [List.append_assoc], g4, g5, ?_⟩
    intro w' x cp' cl' cc' bsN hb hown hs
    have h1 : ∀ b ∈ bsL ++ bsR, w'.heap[b]? = w.heap[b]? := fun b hm => hb b (by simp only [List.mem_append] at hm ⊢; rcases hm with hm | hm <;> simp [hm])
    refine ⟨cp0, cl0, cc0, ys, bs1, _, _, rfl, by simp [List.append_assoc], ht, ownsRow_same ho (fun b hm => hb b (by simp only [List.mem_append]; exact .inl (.inl (.inl hm)))), hc.same (fun b hm => hb b (by simp only [List.mem_append]; exact .inl (.inl (.inr hm)))), g6 w' x cp' cl' cc' bsN h1 hown hs⟩

/-- What a store of a whole tree at the end of the way makes of the tree that it lies in. -/
theorem put_mem (u : Nd) (up : Option Addr) (ul uc : Nat) (us : List Nat) (hut : szok u.k u.t) : ∀ (path : List Int) (x y : Nd) (w : World) (b o : Nat) (cp : Option Addr) (cl cc : Nat) (bs : List Nat) (b' o' : Nat),
    w.cell? ⟨b, o, none⟩ = some (.string x.k) → w.cell? ⟨b, o + 1, none⟩ = some (.int .i64 x.n) → w.cell? ⟨b, o + 2, none⟩ = some (.string x.t) → w.cell? ⟨b, o + 3, none⟩ = some (.slice cp cl cc) → Own w x.c cp cl cc bs → szok x.k x.t →
    b ∉ bs → bs.Nodup → Own w u.c up ul uc us → us.Nodup → (∀ z ∈ us, z ∉ bs ∧ z ≠ b) → Nav w path b o b' o' → sub path x = some y →
    ∃ cp' cl' cc' bs', (b' = b ∨ b' ∈ bs) ∧
      (set4 w b' o' (.string u.k) (.int .i64 u.n) (.string u.t) (.slice up ul uc)).cell? ⟨b, o, none⟩ = some (.string (put path x u).k) ∧
      (set4 w b' o' (.string u.k) (.int .i64 u.n) (.string u.t) (.slice up ul uc)).cell? ⟨b, o + 1, none⟩ = some (.int .i64 (put path x u).n) ∧
      (set4 w b' o' (.string u.k) (.int .i64 u.n) (.string u.t) (.slice up ul uc)).cell? ⟨b, o + 2, none⟩ = some (.string (put path x u).t) ∧
      (set4 w b' o' (.string u.k) (.int .i64 u.n) (.string u.t) (.slice up ul uc)).cell? ⟨b, o + 3, none⟩ = some (.slice cp' cl' cc') ∧
      (∀ z, z < o ∨ o + 4 ≤ z → (set4 w b' o' (.string u.k) (.int .i64 u.n) (.string u.t) (.slice up ul uc)).cell? ⟨b, z, none⟩ = w.cell? ⟨b, z, none⟩) ∧
      Own (set4 w b' o' (.string u.k) (.int .i64 u.n) (.string u.t) (.slice up ul uc)) (put path x u).c cp' cl' cc' bs' ∧ szok (put path x u).k (put path x u).t ∧ bs'.Nodup ∧ (∀ z ∈ bs', z ∈ bs ∨ z ∈ us)
  | [], x, y, w, b, o, cp, cl, cc, bs, b', o', c0, c1, c2, c3, ho, hxt, hb, hnd, hou, hund, hdis, ⟨e1, e2⟩, hs => by
    subst e1 e2
    obtain ⟨s0, s1, s2, s3⟩ := set4_same (v0 := .string u.k) (v1 := .int .i64 u.n) (v2 := .string u.t) (v3 := .slice up ul uc) c0 c1 c2 c3
    exact ⟨up, ul, uc, us, .inl rfl, s0, s1, s2, s3, fun z hz => set4_other hz, hou.same (fun z hz => set4_heap (hdis z hz).2), hut, hund, fun z hz => .inr hz⟩
  | i :: r, x, y, w, b, o, cp, cl, cc, bs, b', o', c0, c1, c2, c3, ho, hxt, hb, hnd, hou, hund, hdis, ⟨kb, ko, cl1, cc1, hc3, hi0, hil, hnav⟩, hs => by
    rw [c3] at hc3
    simp only [Option.some.injEq, Value.slice.injEq] at hc3
    obtain ⟨rfl, rfl, rfl⟩ := hc3
    obtain ⟨ys, bs1, hrow, hrep, hbs⟩ := ho
    rcases hrow.2 with ⟨he, _⟩ | ⟨g, cap, cur, he, _, hheap, hle, hcap, hsz, htake⟩
    · simp at he
    simp only [Value.slice.injEq, Option.some.injEq, Addr.mk.injEq, and_true] at he
    obtain ⟨⟨rfl, rfl⟩, rfl, rfl⟩ := he
    have hsb : sb (some ⟨kb, 0, none⟩) x.c.len cc = [kb] := rfl
    rw [hsb] at hbs
    obtain ⟨k1, n1, t1, s1, r1, hd⟩ := Fo.drop_lt i.toNat x.c hil
    obtain ⟨pre, post, cp1, cl1, cc1, bsL, bsM, bsR, hys, hpre, hbs1, hown1, ht1, hset⟩ := hrep.focus hd
    have hkid : x.c.kid i = some ⟨k1, n1, t1, s1⟩ := by
      rw [Fo.kid, if_neg (by omega)]
      exact Fo.at?_drop hd
    have hsub : sub r ⟨k1, n1, t1, s1⟩ = some y := by
      simp only [sub, hkid] at hs
      exact hs
    have hput : put (i :: r) x u = ⟨x.k, x.n, x.t, x.c.set i.toNat (put r ⟨k1, n1, t1, s1⟩ u)⟩ := by
      simp only [put, hkid]
    have hbs : bs = kb :: bs1 := hbs
    subst hbs hbs1
    -- what is disjoint
    have hndg := List.nodup_cons.1 hnd
    have hnd1 := List.nodup_append.1 hndg.2
    have hnd2 := List.nodup_append.1 hnd1.1
    have hgM : kb ∉ bsM := fun h => hndg.1 (by simp [h])
    have hcell : ∀ j v, ys[j]? = some v → w.cell? ⟨kb, j, none⟩ = some v := fun j v hv => by
      have := hrow.cells (g := kb) rfl j v hv
      rwa [add0] at this
    have hlen4 : ∀ j v, [Value.string k1, .int .i64 n1, .string t1, .slice cp1 cl1 cc1][j]? = some v → w.cell? ⟨kb, i.toNat * 4 + j, none⟩ = some v := fun j v hv => by
      refine hcell _ v ?_
      rw [hys, List.append_assoc, List.getElem?_append_right (by omega), hpre, show i.toNat * 4 + j - i.toNat * 4 = j by omega]
      have hj : j < 4 := by
        rcases Nat.lt_or_ge j 4 with h | h
        · exact h
        · rw [List.getElem?_eq_none (by simpa using h)] at hv; simp at hv
      rw [List.getElem?_append_left (by simpa using hj)]
      exact hv
    have hnav' : Nav w r kb (i.toNat * 4) b' o' := by simpa using hnav
    obtain ⟨cp2, cl2, cc2, bs2, hb2, d0, d1, d2, d3, doth, hown2, hut2, hnd3, hsub2⟩ := put_mem u up ul uc us hut r ⟨k1, n1, t1, s1⟩ y w kb (i.toNat * 4) cp1 cl1 cc1 bsM b' o' (hlen4 0 _ rfl) (hlen4 1 _ rfl) (hlen4 2 _ rfl) (hlen4 3 _ rfl) hown1 ht1 hgM hnd2.2.1 hou hund
      (fun z hz => ⟨fun h => (hdis z hz).1 (by simp [h]), fun h => (hdis z hz).1 (by simp [h])⟩) hnav' hsub
    have hb'kb : b' = kb ∨ b' ∈ bsM := hb2
    have hb'b : b' ≠ b := fun e => by
      rcases hb'kb with h | h
      · exact hb (by simp [← e, h])
      · exact hb (by simp [← e, h])
    have hsame : ∀ z, (set4 w b' o' (.string u.k) (.int .i64 u.n) (.string u.t) (.slice up ul uc)).cell? ⟨b, z, none⟩ = w.cell? ⟨b, z, none⟩ := fun z => World.cell?_of_block (set4_heap (Ne.symm hb'b))
    rw [hput]
    obtain ⟨cur', hheap', hsz'⟩ := set4_shape (b := b') (o := o') (v0 := .string u.k) (v1 := .int .i64 u.n) (v2 := .string u.t) (v3 := .slice up ul uc) hheap
    refine ⟨some ⟨kb, 0, none⟩, x.c.len, cc, kb :: (bsL ++ bs2 ++ bsR), .inr (by rcases hb'kb with h | h <;> simp [h]), by rw [hsame]; exact c0, by rw [hsame]; exact c1, by rw [hsame]; exact c2, by rw [hsame]; exact c3, fun z _ => hsame z, ?_, hxt, ?_, ?_⟩
    · -- the row, with another one in its i-th place
      have hrows := hset (set4 w b' o' (.string u.k) (.int .i64 u.n) (.string u.t) (.slice up ul uc)) (put r ⟨k1, n1, t1, s1⟩ u) cp2 cl2 cc2 bs2 (fun z hz => set4_heap (fun e => by
        rcases hb'kb with h | h
        · exact hndg.1 (by rw [← h, ← e]; simp only [List.mem_append] at hz ⊢; rcases hz with hz | hz <;> simp [hz])
        · rw [← e] at h
          rcases List.mem_append.1 hz with hz | hz
          · exact hnd2.2.2 z hz z h rfl
          · exact hnd1.2.2 z (by simp [h]) z hz rfl)) hown2 hut2
      refine ⟨_, _, ⟨?_, .inr ⟨kb, cc, cur', ?_, Nat.zero_le _, hheap', ?_, hcap, by omega, ?_⟩⟩, hrows, ?_⟩
      · have h1 := hrow.1
        rw [hys] at h1
        simp only [List.length_append, List.length_cons, List.length_nil] at h1 ⊢
        rw [Fo.len_set]
        omega
      · rw [Fo.len_set]
      · rw [Fo.len_set]; exact hle
      · rw [Fo.len_set]
        have hyl := hrow.1
        apply List.ext_getElem?
        intro j
        have hcell' : ∀ z, z < cur'.size → cur'[z]? = (set4 w b' o' (.string u.k) (.int .i64 u.n) (.string u.t) (.slice up ul uc)).cell? ⟨kb, z, none⟩ := fun z hz => by simp [World.cell?, hheap']
        have hcellw : ∀ z, z < x.c.len * 4 → w.cell? ⟨kb, z, none⟩ = ys[z]? := fun z hz => by
          rw [List.getElem?_eq_getElem (by omega)]
          exact hcell z _ (List.getElem?_eq_getElem (by omega))
        by_cases hj : j < x.c.len * 4
        · have hjc : j < cur'.size := by
            have : x.c.len * 4 ≤ cc * 4 := Nat.mul_le_mul_right 4 hle
            omega
          rw [List.getElem?_take, if_pos hj, Array.getElem?_toList, hcell' j hjc]
          have hlen : (pre ++ [Value.string k1, .int .i64 n1, .string t1, .slice cp1 cl1 cc1]).length = i.toNat * 4 + 4 := by simp [hpre]
          by_cases h1 : j < i.toNat * 4
          · rw [doth j (.inl h1), hcellw j hj, hys, List.append_assoc, List.append_assoc, List.getElem?_append_left (by omega), List.getElem?_append_left (by omega)]
          · by_cases h2 : i.toNat * 4 + 4 ≤ j
            · rw [doth j (.inr h2), hcellw j hj, hys, List.getElem?_append_right (by omega), List.getElem?_append_right (by simp [hpre]; omega)]
              simp [hpre]
            · rw [List.append_assoc, List.getElem?_append_right (by omega), hpre]
              have h3 : j = i.toNat * 4 ∨ j = i.toNat * 4 + 1 ∨ j = i.toNat * 4 + 2 ∨ j = i.toNat * 4 + 3 := by omega
              rcases h3 with rfl | rfl | rfl | rfl
              · rw [d0, show i.toNat * 4 - i.toNat * 4 = 0 by omega]; rfl
              · rw [d1, show i.toNat * 4 + 1 - i.toNat * 4 = 1 by omega]; rfl
              · rw [d2, show i.toNat * 4 + 2 - i.toNat * 4 = 2 by omega]; rfl
              · rw [d3, show i.toNat * 4 + 3 - i.toNat * 4 = 3 by omega]; rfl
        · rw [List.getElem?_take, if_neg hj, List.getElem?_eq_none]
          have h1 := hrow.1
          rw [hys] at h1
          simp only [List.length_append, List.length_cons, List.length_nil] at h1 ⊢
          omega
      · rfl
    · -- each block once
      refine List.nodup_cons.2 ⟨fun h => ?_, ?_⟩
      · simp only [List.mem_append] at h
        rcases h with (h | h) | h
        · exact hndg.1 (by simp [h])
        · rcases hsub2 kb h with h | h
          · exact hgM h
          · exact (hdis kb h).1 (by simp)
        · exact hndg.1 (by simp [h])
      · refine List.nodup_append.2 ⟨List.nodup_append.2 ⟨hnd2.1, hnd3, fun a ha z hz e => ?_⟩, hnd1.2.1, fun a ha z hz e => ?_⟩
        · subst e
          rcases hsub2 a hz with h | h
          · exact hnd2.2.2 a ha a h rfl
          · exact (hdis a h).1 (by simp [ha])
        · subst e
          rcases List.mem_append.1 ha with ha | ha
          · exact hnd1.2.2 a (by simp [ha]) a hz rfl
          · rcases hsub2 a ha with h | h
            · exact hnd1.2.2 a (by simp [h]) a hz rfl
            · exact (hdis a h).1 (by simp [hz])
    · intro z hz
      simp only [List.mem_cons, List.mem_append] at hz ⊢
      rcases hz with hz | (hz | hz) | hz
      · exact .inl (.inl hz)
      · exact .inl (.inr (.inl (.inl hz)))
      · rcases hsub2 z hz with h | h
        · exact .inl (.inr (.inl (.inr h)))
        · exact .inr h
      · exact .inl (.inr (.inr hz))
end Go.Proofs.Ytnphhibfiklfjaa
