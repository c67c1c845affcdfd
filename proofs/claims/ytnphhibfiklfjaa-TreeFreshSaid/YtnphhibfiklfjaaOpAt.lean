/-
  espalierlaw4.Kept: its walk; an operation in its box; a list of operations.
-/
import Derived.Test.YtnphhibfiklfjaaTwins

import Derived.Test.YtnphhibfiklfjaaPkD

import Derived.Test.YtnphhibfiklfjaaPkC

import Derived.Deep.Cut

set_option linter.unusedVariables false

set_option linter.unusedSimpArgs false

namespace Go.Proofs.Ytnphhibfiklfjaa

open Go.RowKit Go.Shelf Go.Sort

abbrev OT : TypeId := 51
abbrev opc (kd : Int) (x u : Nd) (cp up : Option Addr) (cl cc ul uc : Nat) (pp : Option Addr) (pl pc : Nat) (st : Int) : Array Value := #[.int .i64 kd, .string x.k, .int .i64 x.n, .string x.t, .slice cp cl cc, .string u.k, .int .i64 u.n, .string u.t, .slice up ul uc, .slice pp pl pc, .int .i64 st]
abbrev opv (kd : Int) (x u : Nd) (cp up : Option Addr) (cl cc ul uc : Nat) (pp : Option Addr) (pl pc : Nat) (st : Int) : Value := .agg (opc kd x u cp up cl cc ul uc pp pl pc st)
theorem boxO {W : World} {b : Nat} {kd : Int} {x u : Nd} {cp up : Option Addr} {cl cc ul uc : Nat} {pp : Option Addr} {pl pc : Nat} {st : Int} (h : W.heap[b]? = some (.cells (opc kd x u cp up cl cc ul uc pp pl pc st) OT (0, 0))) :
    (W.cell? ⟨b, 0, none⟩ = some (.int .i64 kd) ∧ W.cell? ⟨b, 9, none⟩ = some (.slice pp pl pc) ∧ W.cell? ⟨b, 10, none⟩ = some (.int .i64 st)) ∧
    (W.cell? ⟨b, 1, none⟩ = some (.string x.k) ∧ W.cell? ⟨b, 2, none⟩ = some (.int .i64 x.n) ∧ W.cell? ⟨b, 3, none⟩ = some (.string x.t) ∧ W.cell? ⟨b, 4, none⟩ = some (.slice cp cl cc)) ∧
    (W.cell? ⟨b, 5, none⟩ = some (.string u.k) ∧ W.cell? ⟨b, 6, none⟩ = some (.int .i64 u.n) ∧ W.cell? ⟨b, 7, none⟩ = some (.string u.t) ∧ W.cell? ⟨b, 8, none⟩ = some (.slice up ul uc)) := by
  simp [World.cell?, h]
theorem Row.le' {w : World} {v : Value} {xs : List Int} (h : Row w v xs) : xs.length ≤ 9223372036854775807 := by
  rcases h.form with ⟨_, rfl⟩ | ⟨g, cap, cur, _, _, _, h1, h2, _⟩
  · simp
  · unfold maxLen at h2; omega
set_option maxHeartbeats 800000 in
theorem Kept_any (x : Nd) (cp up : Option Addr) (cl cc ul uc : Nat) (A A' : Nat → Prop) (w : World) (h : Tv w A x.k x.t x.c cp cl cc) (hm : MarkT w A x.c cp cl cc) (h' : Tv w A' x.k x.t x.c up ul uc) (hn : x.c.nodes ≤ 3000) :
    Calls Try.prog 23 #[tv x.k x.n x.t cp cl cc, tv x.k x.n x.t up ul uc] w fun e w' => e = .returned (.bool true) ∧ Keeps (fun _ => False) w w' := by
  obtain ⟨w1, hw1⟩ : ∃ w1, w1 = (w.alloc (.cells (four x.k x.n x.t cp cl cc) T)).alloc (.cells (four x.k x.n x.t up ul uc) T) := ⟨_, rfl⟩
  have hK1 : Keeps (fun _ => False) w w1 := by rw [hw1]; exact ((Keeps.refl _ w).alloc _).alloc _
  have hb1 : w1.heap[w.heap.size]? = some (.cells (four x.k x.n x.t cp cl cc) T (0, 0)) := by
    rw [hw1]
    exact ((Keeps.refl (fun _ => False) (w.alloc (.cells (four x.k x.n x.t cp cl cc) T))).alloc _).heap (heap_alloc_new _ _)
  have hb2 : w1.heap[w.heap.size + 1]? = some (.cells (four x.k x.n x.t up ul uc) T (0, 0)) := by
    rw [hw1]
    have := heap_alloc_new (w.alloc (.cells (four x.k x.n x.t cp cl cc) T)) (.cells (four x.k x.n x.t up ul uc) T)
    simpa using this
  have ht1 := h.next hK1
  have hm1 := hm.next hK1
  have hE := Eq_any (x.c.nodes + 1) x.k x.k x.n x.n x.t x.t x.c x.c _ _ cp up cl cc ul uc w1 (by omega) ht1 (h'.next hK1)
  rw [eqB_self] at hE
  have hM : Hid (∀ W, Keeps (fun _ => False) w1 W → Calls Try.prog 56 #[tv x.k x.n x.t cp cl cc] W fun e w' => e = .returned (.bool true) ∧ Keeps (fun _ => False) W w') := Lib.hid fun W hk => marks_any (x.c.nodes + 1) x.k x.n x.t x.c cp cl cc A W (by omega) (by omega) (ht1.next hk) (hm1.next hk)
  obtain ⟨a0, a1, a2, a3, _⟩ := box4 hb1
  obtain ⟨b0, b1, b2, b3, _⟩ := box4 hb2
  have HW := Lib.hid hw1
  clear hw1 ht1 hm1 h hm h'
  go_enter Try.func23, Try.ntmps23
  go_upto_region 1 with fail
  rw [← HW.out]
  go_wp2_with fail
  refine hE.mono ?_
  clear hE a0 a1 a2 a3 b0 b1 b2 b3
  rintro e W ⟨rfl, hk⟩
  obtain ⟨a0, a1, a2, a3, _⟩ := box4 (hk.heap hb1)
  go_wp2_with fail
  refine (hM.out _ hk).mono ?_
  clear a0 a1 a2 a3
  rintro e W2 ⟨rfl, hk2⟩
  go_wp2_with fail
  go_ret
  exact ⟨rfl, (hK1.trans hk).trans hk2⟩

/-- An operation's copy, half made. -/
structure TA (w W : World) (ob : Nat) (kd : Int) (x u : Nd) (path : List Int) (m1 m2 : Bool) (cp up : Option Addr) (cl cc ul uc : Nat) (pp : Option Addr) (pl pc : Nat) (st : Int) : Prop where
  box : W.heap[ob]? = some (.cells (opc kd x u cp up cl cc ul uc pp pl pc st) OT (0, 0))
  keeps : Keeps (fun _ => False) w W
  tx : Tv W (fun b => b ≠ ob) x.k x.t x.c cp cl cc
  mx : m1 = true → MarkT W (fun b => b ≠ ob) x.c cp cl cc
  tu : Tv W (fun b => b ≠ ob) u.k u.t u.c up ul uc
  mu : m2 = true → MarkT W (fun b => b ≠ ob) u.c up ul uc
  tp : Ints W (fun b => b ≠ ob) path pp pl
  pc1 : pl ≤ pc
  pc2 : pc ≤ 9223372036854775807
section

variable {w W W1 : World} {ob : Nat} {kd : Int} {x u : Nd} {path : List Int} {m1 m2 : Bool} {cp up : Option Addr} {cl cc ul uc : Nat} {pp : Option Addr} {pl pc : Nat} {st : Int}

theorem TA.next (h : TA w W ob kd x u path m1 m2 cp up cl cc ul uc pp pl pc st) (hk : Keeps (fun _ => False) W W1) : TA w W1 ob kd x u path m1 m2 cp up cl cc ul uc pp pl pc st :=
  ⟨hk.heap h.box, h.keeps.trans hk, h.tx.next hk, fun h1 => (h.mx h1).next hk, h.tu.next hk, fun h1 => (h.mu h1).next hk, h.tp.keeps hk (fun _ _ h => h), h.pc1, h.pc2⟩
theorem TA.set1 (h : TA w W ob kd x u path m1 m2 cp up cl cc ul uc pp pl pc st) (hob : w.heap.size ≤ ob) (hk : Keeps (fun _ => False) W W1) {cp' : Option Addr} {cl' cc' : Nat} (ht : Tv W1 (fun b => W.heap.size ≤ b ∧ b < W1.heap.size) x.k x.t x.c cp' cl' cc') (hm : MarkT W1 (fun b => W.heap.size ≤ b ∧ b < W1.heap.size) x.c cp' cl' cc') :
    TA w ((((W1.setCell ⟨ob, 1, none⟩ (.string x.k)).setCell ⟨ob, 2, none⟩ (.int .i64 x.n)).setCell ⟨ob, 3, none⟩ (.string x.t)).setCell ⟨ob, 4, none⟩ (.slice cp' cl' cc')) ob kd x u path true m2 cp' up cl' cc' ul uc pp pl pc st := by
  have h1 := h.next hk
  have hse : Keeps (fun b => b = ob) W1 ((((W1.setCell ⟨ob, 1, none⟩ (.string x.k)).setCell ⟨ob, 2, none⟩ (.int .i64 x.n)).setCell ⟨ob, 3, none⟩ (.string x.t)).setCell ⟨ob, 4, none⟩ (.slice cp' cl' cc')) := ((((Keeps.refl (fun b => b = ob) W1).setCell (p := ⟨ob, 1, none⟩) (fun _ => rfl) _).setCell (p := ⟨ob, 2, none⟩) (fun _ => rfl) _).setCell (p := ⟨ob, 3, none⟩) (fun _ => rfl) _).setCell (p := ⟨ob, 4, none⟩) (fun _ => rfl) _
  have hlt := heap_lt h.box
  refine ⟨?_, h1.keeps.trans' hse (fun b hb hl => by omega), ?_, fun _ => ?_, h1.tu.keeps hse (fun b hb e => hb e), fun h2 => (h1.mu h2).keeps hse (fun b hb e => hb e), h1.tp.keeps hse (fun b hb e => hb e), h.pc1, h.pc2⟩
  · rw [heap_set (heap_set (heap_set (heap_set h1.box _ _) _ _) _ _) _ _]; rfl
  · exact (ht.keeps hse (fun b hb e => by omega)).mono (fun b hb => by omega)
  · exact (hm.keeps hse (fun b hb e => by omega)).mono (fun b hb => by omega)
theorem TA.set2 (h : TA w W ob kd x u path m1 m2 cp up cl cc ul uc pp pl pc st) (hob : w.heap.size ≤ ob) (hk : Keeps (fun _ => False) W W1) {cp' : Option Addr} {cl' cc' : Nat} (ht : Tv W1 (fun b => W.heap.size ≤ b ∧ b < W1.heap.size) u.k u.t u.c cp' cl' cc') (hm : MarkT W1 (fun b => W.heap.size ≤ b ∧ b < W1.heap.size) u.c cp' cl' cc') :
    TA w ((((W1.setCell ⟨ob, 5, none⟩ (.string u.k)).setCell ⟨ob, 6, none⟩ (.int .i64 u.n)).setCell ⟨ob, 7, none⟩ (.string u.t)).setCell ⟨ob, 8, none⟩ (.slice cp' cl' cc')) ob kd x u path m1 true cp cp' cl cc cl' cc' pp pl pc st := by
  have h1 := h.next hk
  have hse : Keeps (fun b => b = ob) W1 ((((W1.setCell ⟨ob, 5, none⟩ (.string u.k)).setCell ⟨ob, 6, none⟩ (.int .i64 u.n)).setCell ⟨ob, 7, none⟩ (.string u.t)).setCell ⟨ob, 8, none⟩ (.slice cp' cl' cc')) := ((((Keeps.refl (fun b => b = ob) W1).setCell (p := ⟨ob, 5, none⟩) (fun _ => rfl) _).setCell (p := ⟨ob, 6, none⟩) (fun _ => rfl) _).setCell (p := ⟨ob, 7, none⟩) (fun _ => rfl) _).setCell (p := ⟨ob, 8, none⟩) (fun _ => rfl) _
  have hlt := heap_lt h.box
  refine ⟨?_, h1.keeps.trans' hse (fun b hb hl => by omega), h1.tx.keeps hse (fun b hb e => hb e), fun h2 => (h1.mx h2).keeps hse (fun b hb e => hb e), ?_, fun _ => ?_, h1.tp.keeps hse (fun b hb e => hb e), h.pc1, h.pc2⟩
  · rw [heap_set (heap_set (heap_set (heap_set h1.box _ _) _ _) _ _) _ _]; rfl
  · exact (ht.keeps hse (fun b hb e => by omega)).mono (fun b hb => by omega)
  · exact (hm.keeps hse (fun b hb e => by omega)).mono (fun b hb => by omega)
theorem TA.set3 (h : TA w W ob kd x u path m1 m2 cp up cl cc ul uc pp pl pc st) (hob : w.heap.size ≤ ob) (hk : Keeps (fun _ => False) W W1) {pp' : Option Addr} {pl' pc' : Nat} (hr : Row W1 (.slice pp' pl' pc') path) (hnew : ∀ g, (Value.slice pp' pl' pc').ownBlock = some g → W.heap.size ≤ g) (hlen : pl' = path.length) (hi : Ints W1 (fun b => (Value.slice pp' pl' pc').ownBlock = some b) path pp' pl') (hpc : pl' ≤ pc' ∧ pc' ≤ 9223372036854775807) :
    TA w (W1.setCell ⟨ob, 9, none⟩ (.slice pp' pl' pc')) ob kd x u path m1 m2 cp up cl cc ul uc pp' pl' pc' st := by
  have h1 := h.next hk
  have hse : Keeps (fun b => b = ob) W1 (W1.setCell ⟨ob, 9, none⟩ (.slice pp' pl' pc')) := (Keeps.refl (fun b => b = ob) W1).setCell (p := ⟨ob, 9, none⟩) (fun _ => rfl) _
  have hlt := heap_lt h.box
  refine ⟨?_, h1.keeps.trans' hse (fun b hb hl => by omega), h1.tx.keeps hse (fun b hb e => hb e), fun h2 => (h1.mx h2).keeps hse (fun b hb e => hb e), h1.tu.keeps hse (fun b hb e => hb e), fun h2 => (h1.mu h2).keeps hse (fun b hb e => hb e), ?_, hpc.1, hpc.2⟩
  · rw [heap_set h1.box]; rfl
  · exact (hi.keeps hse (fun b hb e => by have := hnew b hb; omega)).mono (fun b hb => by have := hnew b hb; omega)
end

/-- The i-th operation of the list. -/
structure OpAt (w : World) (b o : Nat) (kd : Int) (x u : Nd) (path : List Int) (cp up : Option Addr) (cl cc ul uc : Nat) (pp : Option Addr) (pl pc : Nat) (st : Int) : Prop where
  c0 : w.cell? ⟨b, o, none⟩ = some (.int .i64 kd)
  c1 : w.cell? ⟨b, o + 1, none⟩ = some (.string x.k)
  c2 : w.cell? ⟨b, o + 2, none⟩ = some (.int .i64 x.n)
  c3 : w.cell? ⟨b, o + 3, none⟩ = some (.string x.t)
  c4 : w.cell? ⟨b, o + 4, none⟩ = some (.slice cp cl cc)
  c5 : w.cell? ⟨b, o + 5, none⟩ = some (.string u.k)
  c6 : w.cell? ⟨b, o + 6, none⟩ = some (.int .i64 u.n)
  c7 : w.cell? ⟨b, o + 7, none⟩ = some (.string u.t)
  c8 : w.cell? ⟨b, o + 8, none⟩ = some (.slice up ul uc)
  c9 : w.cell? ⟨b, o + 9, none⟩ = some (.slice pp pl pc)
  c10 : w.cell? ⟨b, o + 10, none⟩ = some (.int .i64 st)
  tx : Tv w (fun b => b < w.heap.size) x.k x.t x.c cp cl cc
  tu : Tv w (fun b => b < w.heap.size) u.k u.t u.c up ul uc
  tp : Ints w (fun b => b < w.heap.size) path pp pl
  pc1 : pl ≤ pc
  pc2 : pc ≤ 9223372036854775807
  short : pl ≤ 17592186044416
  wf : (Lit.int .i64 st).wf = true
theorem OpAt.next {w w1 : World} {b o : Nat} {kd : Int} {x u : Nd} {path : List Int} {cp up : Option Addr} {cl cc ul uc : Nat} {pp : Option Addr} {pl pc : Nat} {st : Int} (h : OpAt w b o kd x u path cp up cl cc ul uc pp pl pc st) (hb : b < w.heap.size) (hk : Keeps (fun _ => False) w w1) : OpAt w1 b o kd x u path cp up cl cc ul uc pp pl pc st := by
  have hc : ∀ k v, w.cell? ⟨b, k, none⟩ = some v → w1.cell? ⟨b, k, none⟩ = some v := fun k v hv => (hk.cell (p := ⟨b, k, none⟩) hb (fun h => h)).trans hv
  exact ⟨hc _ _ h.c0, hc _ _ h.c1, hc _ _ h.c2, hc _ _ h.c3, hc _ _ h.c4, hc _ _ h.c5, hc _ _ h.c6, hc _ _ h.c7, hc _ _ h.c8, hc _ _ h.c9, hc _ _ h.c10,
    (h.tx.next hk).mono (fun b hb => Nat.lt_of_lt_of_le hb hk.size), (h.tu.next hk).mono (fun b hb => Nat.lt_of_lt_of_le hb hk.size), (h.tp.keeps hk (fun _ _ h => h)).mono (fun b hb => Nat.lt_of_lt_of_le hb hk.size), h.pc1, h.pc2, h.short, h.wf⟩
/-- A list of operations. -/
def Ops (w : World) (sp : Option Addr) (sl : Nat) : Prop := ∀ i, i < sl → ∃ b o, sp = some ⟨b, o, none⟩ ∧ b < w.heap.size ∧ ∃ kd x u path cp up cl cc ul uc pp pl pc st, OpAt w b (o + i * 11) kd x u path cp up cl cc ul uc pp pl pc st
theorem Row.caps {w : World} {p : Option Addr} {l c : Nat} {xs : List Int} (h : Row w (.slice p l c) xs) : l = xs.length ∧ l ≤ c ∧ c ≤ 9223372036854775807 := by
  rcases h.form with ⟨h1, rfl⟩ | ⟨g, cap, cur, h1, _, _, h2, h3, _⟩
  · simp only [Value.slice.injEq] at h1
    obtain ⟨_, rfl, rfl⟩ := h1
    simp
  · simp only [Value.slice.injEq] at h1
    obtain ⟨_, rfl, rfl⟩ := h1
    unfold maxLen at h3
    exact ⟨rfl, h2, h3⟩
theorem Try.intInfo2 : (Try.prog.info? 3).map (fun i => (i.zero, i.size, i.bytes)) = some (some (.int .i64 0), 1, 8) := by kernel_rfl
end Go.Proofs.Ytnphhibfiklfjaa
