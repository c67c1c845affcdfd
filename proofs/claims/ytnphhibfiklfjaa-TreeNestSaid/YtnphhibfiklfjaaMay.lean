/-
  tree.May: its walk.
-/
import Derived.Test.YtnphhibfiklfjaaSign2
import Derived.Test.YtnphhibfiklfjaaCopy
set_option linter.unusedVariables false
set_option linter.unusedSimpArgs false
namespace Go.Proofs.Ytnphhibfiklfjaa
open Go.RowKit

/-- All kinds are names of kinds. -/
def namedL (l : List ByteArray) : Bool := l.all fun k => kindB k.data.toList
theorem namedL_snoc (l : List ByteArray) (k : ByteArray) : namedL (l ++ [k]) = (namedL l && kindB k.data.toList) := by simp [namedL, List.all_append]
def NamedJ (M : Nat) (l : List ByteArray) (W : World) : Prop := W.heap[M]? = some (.cells #[.bool (namedL l)] 4 (0, 0))

set_option maxHeartbeats 400000 in
theorem may1_any (A : Nat → Prop) (M : Nat) (l : List ByteArray) (k : ByteArray) (n : Int) (t : ByteArray) (c : Fo) (b o : Nat) (cp : Option Addr) (cl cc : Nat) (w : World) (hb : b < w.heap.size) (hn : NodeAt w A b o k n t c cp cl cc) (hJ : NamedJ M l w) :
    Calls Try.prog 57 #[.pointer (some ⟨b, o, none⟩), .pointer (some ⟨M, 0, none⟩)] w fun e w' => ∃ v, e = .returned v ∧ NamedJ M (l ++ [k]) w' ∧ Keeps (fun b => b = M) w w' := by
  have c0 := hn.c0
  have hki := Kind_any k w hn.size.2
  obtain ⟨v, hv⟩ : ∃ v, kindB k.data.toList = v := ⟨_, rfl⟩
  obtain ⟨u, hu⟩ : ∃ v, namedL l = v := ⟨_, rfl⟩
  unfold KindR at hki
  rw [hv] at hki
  unfold NamedJ at hJ ⊢
  rw [hu] at hJ
  rw [namedL_snoc, hv, hu]
  clear hv hu
  have hM := heap_lt hJ
  cases u
  all_goals
    go_enter Try.func57, Try.ntmps57
    go_wp2_with fail
    refine hki.mono ?_
    rintro e w1 ⟨x, y, rfl, hk⟩
    have hJ1 := (hk.block _ hM (fun h => h)).trans hJ
    have m0 := (show w1.cell? ⟨M, 0, none⟩ = _ by simp [World.cell?, hJ1]; rfl)
    have m1 : w1.frozen? ⟨M, 0, none⟩ = false := by simp [World.frozen?, hJ1]
    go_wp2_with fail
    go_end0
    refine ⟨_, rfl, ?_, (hk.mono (S' := fun b => b = M) (fun _ h _ => h.elim)).setCell (p := ⟨M, 0, none⟩) (fun _ => rfl) _⟩
    rw [heap_set hJ1]
    rfl
theorem see_may (M : Nat) : See (fun b => b < M) (fun b => b = M) (NamedJ M) (M + 1) 57 #[.pointer (some ⟨M, 0, none⟩)] where
  enters := enters_of_func Try.func57 (by kernel_rfl) rfl
  apart := fun b h e => by omega
  treeLt := fun b h => by omega
  seeOut := fun b h => by omega
  keeps := fun l W W' h hk => (hk.block M (heap_lt h) (fun h => h rfl)).trans h
  calls := fun l W b o k n t c cp cl cc _ _ hJ _ hb hn => may1_any _ M l k n t c b o cp cl cc W hb hn hJ

/-- What May answers. -/
def Nd.named (x : Nd) : Bool := namedL (x.k :: x.c.kinds)
def mayF (x : Nd) : Int := if x.small then (if x.named then 0 else 10) else 2
set_option maxHeartbeats 400000 in
theorem May_any (x : Nd) (cp : Option Addr) (cl cc : Nat) (A : Nat → Prop) (w : World) (h : Tv w A x.k x.t x.c cp cl cc) :
    Calls Try.prog 25 #[tv x.k x.n x.t cp cl cc] w fun e w' => e = .returned (.int .i64 (mayF x)) ∧ Keeps (fun _ => False) w w' := by
  have hmf : ∀ (fn : Fn) (first cap : Array Value) (w : World), (Instr.makeFunc fn first cap).run Try.prog w = .ok (.func fn first cap) w := fun _ _ _ _ => rfl
  obtain ⟨w1, hw1⟩ : ∃ w1, w1 = w.alloc (.cells (four x.k x.n x.t cp cl cc) T) := ⟨_, rfl⟩
  obtain ⟨w2, hw2⟩ : ∃ w2, w2 = w1.alloc (.cells #[.bool true] 4) := ⟨_, rfl⟩
  have hK1 : Keeps (fun _ => False) w w1 := by rw [hw1]; exact (Keeps.refl _ w).alloc _
  have hK2 : Keeps (fun _ => False) w1 w2 := by rw [hw2]; exact (Keeps.refl _ w1).alloc _
  have hs1 : w1.heap.size = w.heap.size + 1 := by rw [hw1]; simp
  have hs2 : w2.heap.size = w.heap.size + 1 + 1 := by rw [hw2]; simp [hs1]
  have hn1 : NodeAt w1 (fun b => b < w1.heap.size) w.heap.size 0 x.k x.n x.t x.c cp cl cc := by rw [hw1]; exact (h.boxed _).top
  have hn : NodeAt w2 (fun b => b < w.heap.size + 1) w.heap.size 0 x.k x.n x.t x.c cp cl cc := (hn1.keeps hK2 (fun _ _ h => h) (by omega) (fun h => h)).mono (fun b hb => by omega)
  have hJ : NamedJ (w.heap.size + 1) [] w2 := by unfold NamedJ; rw [hw2, ← hs1]; exact heap_alloc_new _ _
  have hsee : See (fun b => b < w.heap.size + 1) (fun b => b = w.heap.size + 1) (NamedJ (w.heap.size + 1)) w2.heap.size 57 #[.pointer (some ⟨w.heap.size + 1, 0, none⟩)] := by rw [hs2]; exact see_may _
  have hwk := walk_any _ _ _ _ _ x.k x.n x.t x.c w.heap.size 0 cp cl cc [] w2 hsee (by show w.heap.size < w.heap.size + 1; omega) hn hJ rfl
  have hK := hK1.trans hK2
  have HW := Lib.hid hw2
  have HW1 := Lib.hid hw1
  clear hw1 hw2 hn1 hn hJ hsee
  by_cases hsm : x.small
  · rw [wlk1_small x hsm] at hwk
    have hm : mayF x = if x.named then 0 else 10 := by simp [mayF, hsm]
    rw [hm]
    obtain ⟨v, hv⟩ : ∃ v, x.named = v := ⟨_, rfl⟩
    have HV : Hid (namedL ([] ++ (x.k :: x.c.kinds)) = v) := hv
    rw [hv]
    clear hv hm hsm
    cases v
    all_goals
      go_enter Try.func25, Try.ntmps25
      go_wp2_with fail
      rw [← HW1.out, ← HW.out]
      refine hwk.mono ?_
      clear hwk
      rintro e W ⟨rfl, hJ, hk⟩
      unfold NamedJ at hJ
      dsimp only at hJ
      rw [HV.out] at hJ
      have m0 := (show W.cell? ⟨w.heap.size + 1, 0, none⟩ = _ by simp [World.cell?, hJ]; rfl)
      clear hJ
      go_wp2_with fail
      go_ret
      exact ⟨rfl, hK.trans' hk (fun b hb hl => by omega)⟩
  · have hg := wlk1_great x hsm
    obtain ⟨⟨q, bb, l⟩, hr⟩ : ∃ r, wlk1 x.k x.t x.c 1 ⟨0, 0, 0⟩ = r := ⟨_, rfl⟩
    rw [hr] at hwk hg
    dsimp only at hg
    subst hg
    have hm : mayF x = 2 := by simp [mayF, hsm]
    rw [hm]
    clear hm hr hsm
    go_enter Try.func25, Try.ntmps25
    go_wp2_with fail
    rw [← HW1.out, ← HW.out]
    refine hwk.mono ?_
    clear hwk
    rintro e W ⟨rfl, hJ, hk⟩
    clear hJ
    go_wp2_with fail
    go_ret
    exact ⟨rfl, hK.trans' hk (fun b hb hl => by omega)⟩
end Go.Proofs.Ytnphhibfiklfjaa
