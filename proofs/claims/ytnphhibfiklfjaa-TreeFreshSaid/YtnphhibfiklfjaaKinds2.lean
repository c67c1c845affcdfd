/-
  tree.Kinds: its walk.
-/
import Derived.Test.YtnphhibfiklfjaaKinds

set_option linter.unusedVariables false

set_option linter.unusedSimpArgs false

namespace Go.Proofs.Ytnphhibfiklfjaa

open Go.RowKit Go.Maps

theorem ownsRow_base {w : World} {base base' e size n : Nat} {v : Value} {xs : List Value} (h : w.ownsRow base e size v n xs) (hb : base' ≤ base) : w.ownsRow base' e size v n xs := by
  refine ⟨h.1, ?_⟩
  rcases h.2 with h2 | ⟨g, cap, cur, rfl, hg, r⟩
  · exact .inl h2
  · exact .inr ⟨g, cap, cur, rfl, Nat.le_trans hb hg, r⟩
theorem see_kinds (U : Nat) : See (fun b => b < U + 1) (fun b => b = U + 2 ∨ b = U + 1 ∨ b = U + 3 ∨ U + 9 ≤ b) (KindsJ (U + 9) (U + 2) (U + 3) (U + 1)) (U + 4) 59 #[.pointer (some ⟨U + 3, 0, none⟩), .pointer (some ⟨U + 1, 0, none⟩)] where
  enters := enters_of_func Try.func59 (by kernel_rfl) rfl
  apart := fun b h e => by omega
  treeLt := fun b h => by omega
  seeOut := fun b h => by omega
  keeps := fun l W W' ⟨h1, h2, vp, vl, vc, h3, h4⟩ hk => by
    refine ⟨(hk.block _ (heap_lt h1) (fun h => h (.inr (.inr (.inl rfl))))).trans h1, ?_, vp, vl, vc, (hk.block _ (heap_lt h3) (fun h => h (.inr (.inl rfl)))).trans h3, ?_⟩
    · obtain ⟨es, clock, hb, r⟩ := h2
      exact ⟨es, clock, (hk.block _ (heap_lt hb) (fun h => h (.inl rfl))).trans hb, r⟩
    · refine ownsRow_same h4 (fun b hb => ?_)
      cases ho : (Value.slice vp vl vc).ownBlock with
      | none => rw [ho] at hb; simp at hb
      | some g =>
        rw [ho] at hb
        simp only [Option.toList_some, List.mem_singleton] at hb
        subst hb
        have := h4.lt b ho
        exact hk.block b this.2 (fun h => h (.inr (.inr (.inr this.1))))
  calls := fun l W b o k n t c cp cl cc hl hD hJ hA hb hn =>
    (kinds1_any _ (U + 9) (U + 2) (U + 3) (U + 1) (by omega) l hl k n t c b o cp cl cc W hb hA hD hn hJ).mono fun e W' ⟨v, he, hj, hk⟩ => ⟨v, he, hj, hk.mono fun x hx _ => by omega⟩
/-- What Kinds answers. -/
def kindsF (x : Nd) : List ByteArray := if x.small then uniq (x.k :: x.c.kinds) else []
def KindsR (x : Nd) (w : World) (e : Ending) (w' : World) : Prop :=
  ∃ vp vl vc, e = .returned (.slice vp vl vc) ∧ w'.ownsRow w.heap.size 9 1 (.slice vp vl vc) (kindsF x).length ((kindsF x).map .string) ∧ Keeps (fun _ => False) w w'

set_option maxHeartbeats 400000 in
theorem Kinds_any (x : Nd) (cp : Option Addr) (cl cc : Nat) (A : Nat → Prop) (w : World) (h : Tv w A x.k x.t x.c cp cl cc) :
    Calls Try.prog 26 #[tv x.k x.n x.t cp cl cc] w (KindsR x w) := by
  have hmf : ∀ (fn : Fn) (first cap : Array Value) (w : World), (Instr.makeFunc fn first cap).run Try.prog w = .ok (.func fn first cap) w := fun _ _ _ _ => rfl
  have hmm := @run_makeMap Try.prog
  obtain ⟨W1, hW1⟩ : ∃ W1, W1 = (((w.alloc (.cells (four x.k x.n x.t cp cl cc) T)).alloc (.cells #[.slice none 0 0] 58)).alloc (.map #[] 0)).alloc (.cells #[.map (some (w.heap.size + 1 + 1))] 88) := ⟨_, rfl⟩
  have hK : Keeps (fun _ => False) w W1 := by rw [hW1]; exact ((((Keeps.refl _ w).alloc _).alloc _).alloc _).alloc _
  have hs1 : W1.heap.size = w.heap.size + 4 := by rw [hW1]; simp
  have hn1 : NodeAt (w.alloc (.cells (four x.k x.n x.t cp cl cc) T)) (fun b => b < w.heap.size + 1) w.heap.size 0 x.k x.n x.t x.c cp cl cc := by
    have := (h.boxed (n := x.n) T).top
    simpa using this
  have hn : NodeAt W1 (fun b => b < w.heap.size + 1) w.heap.size 0 x.k x.n x.t x.c cp cl cc := by
    rw [hW1]
    exact hn1.keeps (S := fun _ => False) ((((Keeps.refl _ _).alloc _).alloc _).alloc _) (fun _ _ h => h) (by simp) (fun h => h)
  have hJ : KindsJ (w.heap.size + 9) (w.heap.size + 2) (w.heap.size + 3) (w.heap.size + 1) [] W1 := by
    refine ⟨?_, ?_, none, 0, 0, ?_, World.ownsRow_nil _ _ _ _⟩
    · rw [hW1]
      have := heap_alloc_new (((w.alloc (.cells (four x.k x.n x.t cp cl cc) T)).alloc (.cells #[.slice none 0 0] 58)).alloc (.map #[] 0)) (.cells #[.map (some (w.heap.size + 1 + 1))] 88)
      simpa using this
    · rw [hW1]
      have := (World.ownsMap_made ((w.alloc (.cells (four x.k x.n x.t cp cl cc) T)).alloc (.cells #[.slice none 0 0] 58)) Try.prog 9 (unitElem (H := Unit))).alloc (.cells #[.map (some (w.heap.size + 1 + 1))] 88)
      simp only [World.size_alloc] at this
      exact this
    · rw [hW1, Below.heap_alloc _ _ _ (by simp), Below.heap_alloc _ _ _ (by simp)]
      have := heap_alloc_new (w.alloc (.cells (four x.k x.n x.t cp cl cc) T)) (.cells #[.slice none 0 0] 58)
      simpa using this
  have hsee := see_kinds w.heap.size
  rw [← hs1] at hsee
  have hwk := walk_any _ _ _ _ _ x.k x.n x.t x.c w.heap.size 0 cp cl cc [] W1 hsee (by show w.heap.size < w.heap.size + 1; omega) hn hJ rfl
  have HW1 := Lib.hid hW1
  clear hW1 hn1 hn hJ hsee
  by_cases hsm : x.small
  · rw [wlk1_small x hsm] at hwk
    have hm : kindsF x = uniq (x.k :: x.c.kinds) := by simp [kindsF, hsm]
    unfold KindsR
    rw [hm]
    clear hm hsm
    go_enter Try.func26, Try.ntmps26
    go_wp2_with fail
    rw [← HW1.out]
    refine hwk.mono ?_
    clear hwk
    rintro e W ⟨rfl, ⟨_, _, vp, vl, vc, hl, hrow⟩, hk⟩
    have m0 := (show W.cell? ⟨w.heap.size + 1, 0, none⟩ = _ by simp [World.cell?, hl]; rfl)
    clear hl
    go_wp2_with fail
    go_ret
    exact ⟨vp, vl, vc, rfl, ownsRow_base hrow (by omega), hK.trans' hk (fun b hb hl => by omega)⟩
  · have hg := wlk1_great x hsm
    obtain ⟨⟨q, bb, l⟩, hr⟩ : ∃ r, wlk1 x.k x.t x.c 1 ⟨0, 0, 0⟩ = r := ⟨_, rfl⟩
    rw [hr] at hwk hg
    dsimp only at hg
    subst hg
    have hm : kindsF x = [] := by simp [kindsF, hsm]
    unfold KindsR
    rw [hm]
    clear hm hr hsm
    go_enter Try.func26, Try.ntmps26
    go_wp2_with fail
    rw [← HW1.out]
    refine hwk.mono ?_
    clear hwk
    rintro e W ⟨rfl, hJ, hk⟩
    clear hJ
    go_wp2_with fail
    go_ret
    exact ⟨none, 0, 0, rfl, World.ownsRow_nil _ _ _ _, hK.trans' hk (fun b hb hl => by omega)⟩
end Go.Proofs.Ytnphhibfiklfjaa
