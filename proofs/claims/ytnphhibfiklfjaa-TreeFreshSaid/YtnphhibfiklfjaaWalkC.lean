/-
  tree.walk, tree.great, tree.Size: their walks.
-/
import Derived.Test.YtnphhibfiklfjaaWalkB

import Derived.Laws.EntriesVeiled

set_option linter.unusedVariables false

set_option linter.unusedSimpArgs false

namespace Go.Proofs.Ytnphhibfiklfjaa

open Go.RowKit

/-- Whoever is told nothing. -/
theorem nothing_any (v : Value) (w : World) : Calls Try.prog 34 #[v] w fun e w' => e = .returned (.tuple #[]) ∧ w' = w := by
  go_enter Try.func34, Try.ntmps34
  go_wp2_with fail
  go_end0
  exact ⟨rfl, rfl⟩
theorem enters_of_func {g : Nat} {fn : Func} (hf : Try.prog.funcs[g]? = some fn) (hname : (fn.name == "runtime.NumGoroutine") = false) (hb : fn.body.isSome = true) (args : Array Value) (w : World) : (callFunc g args).run Try.prog w = .ok (.enter g args) w := by
  have h1 : fn.name ≠ "runtime.NumGoroutine" := by simpa using hname
  obtain ⟨c, hc⟩ := Option.isSome_iff_exists.1 hb
  simp [callFunc, hf, h1, hc]
theorem see_nothing (B : Nat) : See (fun b => b < B) (fun _ => False) (fun _ _ => True) B 34 #[] where
  enters := enters_of_func Try.func34 (by kernel_rfl) rfl
  apart := fun _ _ h => h
  treeLt := fun _ h => h
  seeOut := fun _ h => h.elim
  keeps := fun _ _ _ _ _ => trivial
  calls := fun _ W _ _ _ _ _ _ _ _ _ _ _ _ _ _ _ => (nothing_any _ W).mono fun _ _ ⟨h1, h2⟩ => ⟨_, h1, trivial, by rw [h2]; exact Keeps.refl _ _⟩

def WalkR (S : Nat → Prop) (J : List ByteArray → World → Prop) (l : List ByteArray) (W : World) (r : Cnt × Bool × List ByteArray) (e : Ending) (W' : World) : Prop :=
  e = .returned (.tuple #[.int .i64 r.1.nodes, .int .i64 r.1.depth, .int .i64 r.1.bytes, .bool r.2.1]) ∧ J (l ++ r.2.2) W' ∧ Keeps S W W'

set_option maxHeartbeats 800000 in
/-- walk(t, see): t at ⟨b, o⟩. -/
theorem walk_any (A S : Nat → Prop) (J : List ByteArray → World → Prop) (g : Nat) (cap : Array Value) (k : ByteArray) (n : Int) (t : ByteArray) (c : Fo) (b o : Nat) (cp : Option Addr) (cl cc : Nat) (l : List ByteArray) (w : World)
   (hsee : See A S J w.heap.size g cap) (hb : A b) (hn : NodeAt w A b o k n t c cp cl cc) (hJ : J l w) (hl : (l.length : Int) = 0) :
   Calls Try.prog 33 #[.pointer (some ⟨b, o, none⟩), .func (.func g) #[] cap] w (WalkR S J l w (wlk1 k t c 1 ⟨0, 0, 0⟩)) := by
  have hmf : ∀ (fn : Fn) (first cap : Array Value) (w : World), (Instr.makeFunc fn first cap).run Try.prog w = .ok (.func fn first cap) w := fun _ _ _ _ => rfl
  have hlt := hsee.treeLt b hb
  go_enter Try.func33, Try.ntmps33
  obtain ⟨W, hW⟩ : ∃ W, W = (((((w.alloc (.cells #[.func (.func g) #[] cap] 74)).alloc (.cells #[.int .i64 0] 3)).alloc (.cells #[.int .i64 0] 3)).alloc (.cells #[.int .i64 0] 3)).alloc (.cells #[downV w.heap.size] 93)) := ⟨_, rfl⟩
  have hBx : Boxes W w.heap.size ⟨0, 0, 0⟩ (.func (.func g) #[] cap) (downV w.heap.size) := by
    rw [hW]
    exact ⟨by simp, by go_simp, by go_simp, by go_simp, by go_simp, by go_simp, by go_simp, by go_simp, by go_simp⟩
  have hK : Keeps (fun _ => False) w W := by rw [hW]; exact (((((Keeps.refl _ w).alloc _).alloc _).alloc _).alloc _).alloc _
  have hd := down_any A S J w.heap.size g cap hsee (c.nodes + 1) k n t c b o cp cl cc 1 ⟨0, 0, 0⟩ l W (by omega) hb (Nat.lt_of_lt_of_le hlt hK.size) (hn.keeps hK (fun _ _ h => h) hlt (fun h => h)) hBx (hsee.keeps _ _ _ hJ (hK.mono fun _ h _ => h.elim)) ⟨by omega, by omega⟩ ⟨by show (0 : Int) ≤ 0; omega, by show (0 : Int) ≤ 1024; omega, by show (0 : Int) ≤ 0; omega, by show (0 : Int) ≤ 16384; omega⟩ hl
  have HW := Lib.hid hW
  clear hW hBx
  go_wp2_with fail
  rw [← HW.out]
  refine hd.mono ?_
  rintro e W2 ⟨rfl, hB2, hJ2, hK2⟩
  obtain ⟨⟨q2, bb, l2⟩, hr⟩ : ∃ r, wlk1 k t c 1 ⟨0, 0, 0⟩ = r := ⟨_, rfl⟩
  rw [hr] at hB2 hJ2 ⊢
  have HR := Lib.hid hr
  clear hr hd
  obtain ⟨b1, b2, b3, b4, b5, b6, b7, b8, b9⟩ := hB2
  dsimp only at b3 b4 b5 hJ2
  go_wp2_with fail
  refine bodyPost_ret (v := .tuple #[.int .i64 q2.nodes, .int .i64 q2.depth, .int .i64 q2.bytes, .bool bb]) (by simp [results, Try.results33, go_sem, b3, b4, b5]) rfl ?_
  rw [HR.out]
  exact ⟨rfl, hJ2, (hK.mono (S' := S) fun _ h _ => h.elim).trans' hK2 fun b' hb' hl => hb'.elim id fun h => by omega⟩

/-- Whether it is too great. -/
def big (k t : ByteArray) (c : Fo) : Bool := !(wlk1 k t c 1 ⟨0, 0, 0⟩).2.1
theorem great_any (k : ByteArray) (n : Int) (t : ByteArray) (c : Fo) (b o : Nat) (cp : Option Addr) (cl cc : Nat) (w : World) (hb : b < w.heap.size) (hn : NodeAt w (fun b => b < w.heap.size) b o k n t c cp cl cc) :
   Calls Try.prog 35 #[.pointer (some ⟨b, o, none⟩)] w fun e w' => e = .returned (.bool (big k t c)) ∧ Keeps (fun _ => False) w w' := by
  have hw := walk_any _ _ _ _ _ k n t c b o cp cl cc [] w (see_nothing w.heap.size) hb hn trivial rfl
  go_enter Try.func35, Try.ntmps35
  go_wp2_with fail
  refine hw.mono ?_
  rintro e W ⟨rfl, _, hK⟩
  go_wp2_with fail
  go_ret
  exact ⟨rfl, hK⟩
def sizeR (k t : ByteArray) (c : Fo) : Int × Int × Int := if big k t c then (1025, 65, 16385) else ((wlk1 k t c 1 ⟨0, 0, 0⟩).1.nodes, (wlk1 k t c 1 ⟨0, 0, 0⟩).1.depth, (wlk1 k t c 1 ⟨0, 0, 0⟩).1.bytes)
end Go.Proofs.Ytnphhibfiklfjaa
