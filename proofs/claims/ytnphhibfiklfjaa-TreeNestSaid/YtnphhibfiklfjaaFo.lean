/-
  Plain trees as data (forests: first child, next sibling), how they lie in memory, and frames. No program in sight.
-/
import Derived.WalkKit
import Derived.Deep.Draws
set_option linter.unusedVariables false
set_option linter.unusedSimpArgs false
namespace Go.Proofs.Ytnphhibfiklfjaa
open Go.RowKit

/-- A list of plain trees: the first one's kind, number, text, kids; then the rest. -/
inductive Fo where
  | nil
  | cons (k : ByteArray) (n : Int) (t : ByteArray) (c r : Fo)

namespace Fo
def len : Fo → Nat
  | nil => 0
  | cons _ _ _ _ r => r.len + 1
def nodes : Fo → Nat
  | nil => 0
  | cons _ _ _ c r => c.nodes + r.nodes + 1
def drop : Nat → Fo → Fo
  | 0, f => f
  | _ + 1, nil => nil
  | i + 1, cons _ _ _ _ r => r.drop i
theorem drop_nil (i : Nat) : drop i nil = nil := by cases i <;> rfl
theorem drop_add (i j : Nat) (f : Fo) : drop (i + j) f = drop j (drop i f) := by
  induction i generalizing f with
  | zero => simp [drop]
  | succ i ih => cases f with
    | nil => simp [drop_nil]
    | cons k n t c r => rw [Nat.succ_add]; exact ih r
theorem len_drop (i : Nat) (f : Fo) : (drop i f).len = f.len - i := by
  induction i generalizing f with
  | zero => rfl
  | succ i ih => cases f with
    | nil => simp [drop_nil, len]
    | cons k n t c r => simp only [drop, len, ih]; omega
theorem drop_lt (i : Nat) (f : Fo) (h : i < f.len) : ∃ k n t c r, drop i f = cons k n t c r := by
  induction i generalizing f with
  | zero => cases f with
    | nil => simp [len] at h
    | cons k n t c r => exact ⟨k, n, t, c, r, rfl⟩
  | succ i ih => cases f with
    | nil => simp [len] at h
    | cons k n t c r => exact ih r (by simpa [len] using h)
theorem drop_step {i : Nat} {f : Fo} {k n t c r} (h : drop i f = cons k n t c r) : drop (i + 1) f = r := by
  rw [drop_add, h]; rfl
theorem drop_len_le {i : Nat} {f : Fo} (h : f.len ≤ i) : drop i f = nil := by
  have : (drop i f).len = 0 := by rw [len_drop]; omega
  cases hd : drop i f with
  | nil => rfl
  | cons k n t c r => rw [hd] at this; simp [len] at this
theorem nodes_drop (i : Nat) (f : Fo) : (drop i f).nodes ≤ f.nodes := by
  induction i generalizing f with
  | zero => exact Nat.le_refl _
  | succ i ih => cases f with
    | nil => simp [drop_nil]
    | cons k n t c r => exact Nat.le_trans (ih r) (by simp [nodes]; omega)
end Fo

/-- What may change is in S; all else that was there is as it was. -/
structure Keeps (S : Nat → Prop) (w w' : World) : Prop where
  os : w'.os = w.os
  tape : w'.tape = w.tape
  output : w'.output = w.output
  size : w.heap.size ≤ w'.heap.size
  block : ∀ k, k < w.heap.size → ¬ S k → w'.heap[k]? = w.heap[k]?
namespace Keeps
variable {S S' : Nat → Prop} {w w1 w2 : World}
theorem refl (S : Nat → Prop) (w : World) : Keeps S w w := ⟨rfl, rfl, rfl, Nat.le_refl _, fun _ _ _ => rfl⟩
theorem trans' (h : Keeps S w w1) (k : Keeps S' w1 w2) (hs : ∀ b, S' b → b < w.heap.size → S b) : Keeps S w w2 :=
  ⟨k.os.trans h.os, k.tape.trans h.tape, k.output.trans h.output, Nat.le_trans h.size k.size, fun b hb hn => (k.block b (Nat.lt_of_lt_of_le hb h.size) (fun h' => hn (hs b h' hb))).trans (h.block b hb hn)⟩
theorem trans (h : Keeps S w w1) (k : Keeps S w1 w2) : Keeps S w w2 := h.trans' k fun _ h _ => h
theorem mono (h : Keeps S w w1) (hs : ∀ b, S b → b < w.heap.size → S' b) : Keeps S' w w1 :=
  ⟨h.os, h.tape, h.output, h.size, fun b hb hn => h.block b hb (fun h' => hn (hs b h' hb))⟩
theorem of_below (h : Below w.heap.size w w1) : Keeps S w w1 := ⟨h.os, h.tape, h.output, h.size, fun k hk _ => h.block k hk⟩
theorem below {B : Nat} (h : Keeps S w w1) (hs : ∀ b, S b → B ≤ b) (hB : B ≤ w.heap.size) : Below B w w1 :=
  ⟨h.os, h.tape, h.output, h.size, fun k hk => h.block k (by omega) (fun h' => by have := hs k h'; omega)⟩
theorem alloc (h : Keeps S w w1) (o : Obj) : Keeps S w (w1.alloc o) :=
  h.trans' (S' := fun _ => False) ⟨rfl, rfl, rfl, by simp, fun k hk _ => Below.heap_alloc _ _ _ hk⟩ (fun _ h => h.elim)
theorem drew (h : Keeps S w w1) : Keeps S w w1.drew := ⟨h.os, h.tape, h.output, h.size, h.block⟩
theorem drewN (h : Keeps S w w1) (n : Nat) : Keeps S w (w1.drewN n) := ⟨h.os, h.tape, h.output, h.size, h.block⟩
theorem setCell (h : Keeps S w w1) {p : Addr} (hp : p.block < w.heap.size → S p.block) (v : Value) : Keeps S w (w1.setCell p v) :=
  h.trans' (S' := fun k => k = p.block) ⟨rfl, rfl, rfl, by simp [World.setCell], fun _ _ hn => Below.heap_setCell _ _ _ _ hn⟩ (fun b hb hl => by subst hb; exact hp hl)
theorem grown (h : Keeps S w w1) {row : Option Nat} (hg : w1.grownBy w2 row) (hr : ∀ k, row = some k → k < w.heap.size → S k) : Keeps S w w2 :=
  h.trans' (S' := fun k => row = some k) ⟨hg.os, hg.tape, hg.output, hg.size, fun k hk hn => hg.block k hk (fun e => hn e.symm)⟩ (fun b hb hl => hr b hb hl)
theorem cell (h : Keeps S w w1) {p : Addr} (hp : p.block < w.heap.size) (hn : ¬ S p.block) : w1.cell? p = w.cell? p := World.cell?_of_block (w := w) (h.block _ hp hn)
theorem frozen (h : Keeps S w w1) {p : Addr} (hp : p.block < w.heap.size) (hn : ¬ S p.block) : w1.frozen? p = w.frozen? p := World.frozen?_of_block (w := w) (h.block _ hp hn)
end Keeps

/-- A kind and a text that memory can hold. -/
abbrev szok (k t : ByteArray) : Prop := t.size ≤ 140737488351232 ∧ k.size ≤ 140737488351232
/-- The trees f lie at p, len of them, in blocks of which A holds (and all their kids). -/
def Kids (w : World) (A : Nat → Prop) : Fo → Option Addr → Nat → Prop
  | .nil, _, len => len = 0
  | .cons k n t c r, p, len => ∃ b o m cp cl cc, p = some ⟨b, o, none⟩ ∧ len = m + 1 ∧ len ≤ 9223372036854775807 ∧ A b ∧ b < w.heap.size ∧ szok k t ∧ cl ≤ cc ∧ cc ≤ 9223372036854775807 ∧
      w.cell? ⟨b, o, none⟩ = some (.string k) ∧ w.cell? ⟨b, o + 1, none⟩ = some (.int .i64 n) ∧ w.cell? ⟨b, o + 2, none⟩ = some (.string t) ∧ w.cell? ⟨b, o + 3, none⟩ = some (.slice cp cl cc) ∧
      Kids w A c cp cl ∧ Kids w A r (some ⟨b, o + 4, none⟩) m
theorem Kids.keeps {w w1 : World} {A S : Nat → Prop} (hk : Keeps S w w1) (hA : ∀ b, A b → ¬ S b) : ∀ {f : Fo} {p : Option Addr} {len : Nat}, Kids w A f p len → Kids w1 A f p len
  | .nil, _, _, h => h
  | .cons _ _ _ _ _, _, _, ⟨b, o, m, cp, cl, cc, hp, hl, hlm, hb, hbs, ht, hcl, hcc, h0, h1, h2, h3, hc, hr⟩ =>
    ⟨b, o, m, cp, cl, cc, hp, hl, hlm, hb, Nat.lt_of_lt_of_le hbs hk.size, ht, hcl, hcc, (hk.cell (p := ⟨b, o, none⟩) hbs (hA b hb)).trans h0, (hk.cell (p := ⟨b, o + 1, none⟩) hbs (hA b hb)).trans h1, (hk.cell (p := ⟨b, o + 2, none⟩) hbs (hA b hb)).trans h2, (hk.cell (p := ⟨b, o + 3, none⟩) hbs (hA b hb)).trans h3, Kids.keeps hk hA hc, Kids.keeps hk hA hr⟩
theorem Kids.drewN {w : World} {A : Nat → Prop} {f : Fo} {p : Option Addr} {len : Nat} (h : Kids w A f p len) (m : Nat) : Kids (w.drewN m) A f p len := h.keeps (S := fun _ => False) ((Keeps.refl _ w).drewN m) (fun _ _ h => h)
theorem Kids.mono {w : World} {A A' : Nat → Prop} (hA : ∀ b, A b → A' b) : ∀ {f : Fo} {p : Option Addr} {len : Nat}, Kids w A f p len → Kids w A' f p len
  | .nil, _, _, h => h
  | .cons _ _ _ _ _, _, _, ⟨b, o, m, cp, cl, cc, hp, hl, hlm, hb, hbs, ht, hcl, hcc, h0, h1, h2, h3, hc, hr⟩ =>
    ⟨b, o, m, cp, cl, cc, hp, hl, hlm, hA b hb, hbs, ht, hcl, hcc, h0, h1, h2, h3, Kids.mono hA hc, Kids.mono hA hr⟩
theorem Kids.len {w : World} {A : Nat → Prop} : ∀ {f : Fo} {p : Option Addr} {len : Nat}, Kids w A f p len → f.len = len
  | .nil, _, _, h => h.symm
  | .cons _ _ _ _ _, _, _, ⟨_, _, _, _, _, _, _, hl, _, _, _, _, _, _, _, _, _, _, _, hr⟩ => by rw [hl, Fo.len, Kids.len hr]
/-- From the i-th on. -/
theorem Kids.drop {w : World} {A : Nat → Prop} {f : Fo} {b o len : Nat} (h : Kids w A f (some ⟨b, o, none⟩) len) (i : Nat) (hi : i ≤ len) : Kids w A (f.drop i) (some ⟨b, o + i * 4, none⟩) (len - i) := by
  induction i generalizing f o len with
  | zero => simpa [Fo.drop] using h
  | succ i ih => cases f with
    | nil => have : len = 0 := h; omega
    | cons k n t c r =>
      obtain ⟨b', o', m, cp, cl, cc, hp, rfl, _, _, _, _, _, _, _, _, _, _, _, hr⟩ := h
      simp only [Option.some.injEq, Addr.mk.injEq, and_true] at hp
      obtain ⟨rfl, rfl⟩ := hp
      have := ih hr (by omega)
      rw [show o + (i + 1) * 4 = o + 4 + i * 4 by omega, show m + 1 - (i + 1) = m - i by omega]
      exact this
/-- A list that isn't empty has an address. -/
theorem Kids.hasAddr {w : World} {A : Nat → Prop} {f : Fo} {p : Option Addr} {len : Nat} (h : Kids w A f p len) (hl : 0 < len) : ∃ b o, p = some ⟨b, o, none⟩ ∧ A b ∧ b < w.heap.size := by
  cases f with
  | nil => have : len = 0 := h; omega
  | cons k n t c r => obtain ⟨b, o, m, cp, cl, cc, hp, _, _, hb, hbs, _⟩ := h; exact ⟨b, o, hp, hb, hbs⟩

/-- A node at address ⟨b, o⟩. -/
structure NodeAt (w : World) (A : Nat → Prop) (b o : Nat) (k : ByteArray) (n : Int) (t : ByteArray) (c : Fo) (cp : Option Addr) (cl cc : Nat) : Prop where
  size : szok k t
  lc : cl ≤ cc
  cm : cc ≤ 9223372036854775807
  c0 : w.cell? ⟨b, o, none⟩ = some (.string k)
  c1 : w.cell? ⟨b, o + 1, none⟩ = some (.int .i64 n)
  c2 : w.cell? ⟨b, o + 2, none⟩ = some (.string t)
  c3 : w.cell? ⟨b, o + 3, none⟩ = some (.slice cp cl cc)
  kids : Kids w A c cp cl
theorem NodeAt.keeps {w w1 : World} {A S : Nat → Prop} {b o k n t c cp cl cc} (h : NodeAt w A b o k n t c cp cl cc) (hk : Keeps S w w1) (hA : ∀ b, A b → ¬ S b) (hb : b < w.heap.size) (hS : ¬ S b) : NodeAt w1 A b o k n t c cp cl cc :=
  ⟨h.size, h.lc, h.cm, (hk.cell (p := ⟨b, o, none⟩) hb hS).trans h.c0, (hk.cell (p := ⟨b, o + 1, none⟩) hb hS).trans h.c1, (hk.cell (p := ⟨b, o + 2, none⟩) hb hS).trans h.c2, (hk.cell (p := ⟨b, o + 3, none⟩) hb hS).trans h.c3, h.kids.keeps hk hA⟩
theorem Kids.nodeAt {w : World} {A : Nat → Prop} {k n t c r} {b o len : Nat} (h : Kids w A (.cons k n t c r) (some ⟨b, o, none⟩) len) : ∃ cp cl cc, NodeAt w A b o k n t c cp cl cc := by
  obtain ⟨b', o', m, cp, cl, cc, hp, _, _, _, _, ht, hcl, hcc, h0, h1, h2, h3, hc, _⟩ := h
  simp only [Option.some.injEq, Addr.mk.injEq, and_true] at hp
  obtain ⟨rfl, rfl⟩ := hp
  exact ⟨cp, cl, cc, ht, hcl, hcc, h0, h1, h2, h3, hc⟩
/-- The i-th kid. -/
theorem Kids.at_ {w : World} {A : Nat → Prop} {f : Fo} {b o len : Nat} (h : Kids w A f (some ⟨b, o, none⟩) len) (i : Nat) {k n t c r} (hd : f.drop i = .cons k n t c r) (hi : i < len) : ∃ cp cl cc, NodeAt w A b (o + i * 4) k n t c cp cl cc := by
  have := h.drop i (by omega)
  rw [hd] at this
  exact this.nodeAt


/-! Texts held against each other, in the walk's own spelling. -/
theorem txt_ne {a b : ByteArray} (h : a ≠ b) : (a.toList == b.toList) = false := by
  rw [ByteArray.toList_eq, ByteArray.toList_eq]
  cases he : (a.data.toList == b.data.toList) with
  | false => rfl
  | true =>
    rw [beq_iff_eq, Array.toList_inj] at he
    exact absurd (by cases a; cases b; simp_all) h
theorem num_ne {a b : Int} (h : a ≠ b) : (a != b) = true := by simpa using h
theorem num_nb {a b : Int} (h : a ≠ b) : (a == b) = false := by simpa using h
/-- Held against each other: the same? -/
noncomputable def eqB (c c' : Fo) : Bool := @decide (c = c') (Classical.propDecidable _)
theorem eqB_self (c : Fo) : eqB c c = true := by simp [eqB]
theorem eqB_true {c c' : Fo} : eqB c c' = true ↔ c = c' := by simp [eqB]
theorem eqB_false {c c' : Fo} : eqB c c' = false ↔ c ≠ c' := by simp [eqB]
/-- One tree. -/
def one (k : ByteArray) (n : Int) (t : ByteArray) (c : Fo) : Fo := .cons k n t c .nil
theorem one_inj {k k' n n' t t' c c'} : one k n t c = one k' n' t' c' ↔ k = k' ∧ n = n' ∧ t = t' ∧ c = c' := by simp [one]
theorem Fo.drop_eq_step {c c' : Fo} {j : Nat} {k n t cs r k' n' t' cs' r'} (hd : c.drop j = .cons k n t cs r) (hd' : c'.drop j = .cons k' n' t' cs' r') (h : c = c' ↔ c.drop j = c'.drop j) (he : one k n t cs = one k' n' t' cs') : c = c' ↔ c.drop (j + 1) = c'.drop (j + 1) := by
  rw [Fo.drop_step hd, Fo.drop_step hd', h, hd, hd']
  rw [one_inj] at he
  obtain ⟨rfl, rfl, rfl, rfl⟩ := he
  simp

/-- All blocks are there: every list of kids lies in old memory. -/
theorem Kids.top {w : World} {A : Nat → Prop} : ∀ {f : Fo} {p : Option Addr} {len : Nat}, Kids w A f p len → Kids w (fun b => b < w.heap.size) f p len
  | .nil, _, _, h => h
  | .cons _ _ _ _ _, _, _, ⟨b, o, m, cp, cl, cc, hp, hl, hlm, _, hbs, ht, hcl, hcc, h0, h1, h2, h3, hc, hr⟩ =>
    ⟨b, o, m, cp, cl, cc, hp, hl, hlm, hbs, hbs, ht, hcl, hcc, h0, h1, h2, h3, Kids.top hc, Kids.top hr⟩
/-- A tree by value. -/
abbrev tv (k : ByteArray) (n : Int) (t : ByteArray) (cp : Option Addr) (cl cc : Nat) : Value := .agg #[.string k, .int .i64 n, .string t, .slice cp cl cc]
structure Tv (w : World) (A : Nat → Prop) (k t : ByteArray) (c : Fo) (cp : Option Addr) (cl cc : Nat) : Prop where
  size : szok k t
  lc : cl ≤ cc
  cm : cc ≤ 9223372036854775807
  kids : Kids w A c cp cl
theorem Tv.keeps {w w1 : World} {A S : Nat → Prop} {k t c cp cl cc} (h : Tv w A k t c cp cl cc) (hk : Keeps S w w1) (hA : ∀ b, A b → ¬ S b) : Tv w1 A k t c cp cl cc := ⟨h.size, h.lc, h.cm, h.kids.keeps hk hA⟩
theorem Tv.mono {w : World} {A A' : Nat → Prop} {k t c cp cl cc} (h : Tv w A k t c cp cl cc) (hA : ∀ b, A b → A' b) : Tv w A' k t c cp cl cc := ⟨h.size, h.lc, h.cm, h.kids.mono hA⟩
theorem Tv.top {w : World} {A : Nat → Prop} {k t c cp cl cc} (h : Tv w A k t c cp cl cc) : Tv w (fun b => b < w.heap.size) k t c cp cl cc := ⟨h.size, h.lc, h.cm, h.kids.top⟩
theorem Tv.len {w : World} {A : Nat → Prop} {k t c cp cl cc} (h : Tv w A k t c cp cl cc) : c.len = cl := h.kids.len
theorem NodeAt.tv {w : World} {A : Nat → Prop} {b o k n t c cp cl cc} (h : NodeAt w A b o k n t c cp cl cc) : Tv w A k t c cp cl cc := ⟨h.size, h.lc, h.cm, h.kids⟩
theorem NodeAt.top {w : World} {A : Nat → Prop} {b o k n t c cp cl cc} (h : NodeAt w A b o k n t c cp cl cc) : NodeAt w (fun b => b < w.heap.size) b o k n t c cp cl cc := ⟨h.size, h.lc, h.cm, h.c0, h.c1, h.c2, h.c3, h.kids.top⟩
theorem NodeAt.mono {w : World} {A A' : Nat → Prop} {b o k n t c cp cl cc} (h : NodeAt w A b o k n t c cp cl cc) (hA : ∀ b, A b → A' b) : NodeAt w A' b o k n t c cp cl cc := ⟨h.size, h.lc, h.cm, h.c0, h.c1, h.c2, h.c3, h.kids.mono hA⟩
/-- Laid in a box of its own. -/
theorem Tv.boxed {w : World} {A : Nat → Prop} {k n t c cp cl cc} (h : Tv w A k t c cp cl cc) (T : TypeId) : NodeAt (w.alloc (.cells #[.string k, .int .i64 n, .string t, .slice cp cl cc] T)) A w.heap.size 0 k n t c cp cl cc :=
  ⟨h.size, h.lc, h.cm, by go_simp, by go_simp, by go_simp, by go_simp, h.kids.keeps (S := fun _ => False) ((Keeps.refl _ w).alloc _) (fun _ _ h => h)⟩
/-- A list of four values. -/
abbrev four (k : ByteArray) (n : Int) (t : ByteArray) (cp : Option Addr) (cl cc : Nat) : Array Value := #[.string k, .int .i64 n, .string t, .slice cp cl cc]

end Go.Proofs.Ytnphhibfiklfjaa
