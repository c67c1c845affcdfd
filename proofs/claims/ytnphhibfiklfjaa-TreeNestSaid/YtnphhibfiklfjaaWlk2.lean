/-
  What walk reckons, told by the tree's own numbers.
-/
import Derived.Test.YtnphhibfiklfjaaWlk
import Derived.Test.YtnphhibfiklfjaaPath
set_option linter.unusedVariables false
set_option linter.unusedSimpArgs false
namespace Go.Proofs.Ytnphhibfiklfjaa
open Go.RowKit

namespace Fo
def bytes : Fo → Nat
  | nil => 0
  | cons _ _ t c r => t.size + c.bytes + r.bytes
/-- How deep; none: nothing. -/
def depth : Fo → Nat
  | nil => 0
  | cons _ _ _ c r => max (c.depth + 1) r.depth
/-- The kinds, each ahead of its kids'. -/
def kinds : Fo → List ByteArray
  | nil => []
  | cons k _ _ c r => k :: c.kinds ++ r.kinds
end Fo
def mx2 (a b : Int) : Int := if a < b then b else a
theorem mx2_max (a b : Int) : mx2 a b = max a b := by unfold mx2; split <;> omega
theorem good_of {q : Cnt} {d : Int} {t : ByteArray} (h1 : q.nodes + 1 ≤ 1024) (h2 : d ≤ 64) (h3 : q.bytes + t.size ≤ 16384) : (q.add d t).bad d = false := by
  cases hb : (q.add d t).bad d with
  | false => rfl
  | true => have := Cnt.bad_cases hb; omega
theorem Fo.depth_cons (k n t c r) : 0 < (Fo.cons k n t c r).depth := by simp only [Fo.depth]; omega
/-- It goes through just where nothing is too great; and then it has counted all. -/
theorem wlk_true : ∀ (f : Fo) (d : Int) (q : Cnt), 0 ≤ q.nodes → q.nodes ≤ 1024 → 0 ≤ q.bytes → q.bytes ≤ 16384 → (q.nodes + f.nodes ≤ 1024 ∧ (0 < f.depth → d + f.depth ≤ 65) ∧ q.bytes + f.bytes ≤ 16384) →
    wlk f d q = (⟨q.nodes + f.nodes, if f.depth = 0 then q.depth else mx2 q.depth (d + f.depth - 1), q.bytes + f.bytes⟩, true, f.kinds)
  | .nil, d, q, _, _, _, _, _ => by simp [wlk, Fo.nodes, Fo.bytes, Fo.kinds, Fo.depth]
  | .cons k n t c r, d, q, h1, h2, h3, h4, ⟨g1, g2, g3⟩ => by
    have g2 := g2 (Fo.depth_cons _ _ _ _ _)
    simp only [Fo.nodes, Fo.depth, Fo.bytes] at g1 g2 g3
    have hb : (q.add d t).bad d = false := good_of (by omega) (by omega) (by omega)
    have e1 : (q.add d t).nodes = q.nodes + 1 := rfl
    have e2 : (q.add d t).bytes = q.bytes + t.size := rfl
    have e3 : (q.add d t).depth = mx2 q.depth d := rfl
    have hc := wlk_true c (d + 1) (q.add d t) (by omega) (by omega) (by omega) (by omega) ⟨by omega, fun _ => by omega, by omega⟩
    rw [e1, e2, e3] at hc
    have hr := wlk_true r d ⟨q.nodes + 1 + c.nodes, if c.depth = 0 then mx2 q.depth d else mx2 (mx2 q.depth d) (d + 1 + c.depth - 1), q.bytes + t.size + c.bytes⟩ (by show 0 ≤ q.nodes + 1 + c.nodes; omega) (by show q.nodes + 1 + c.nodes ≤ 1024; omega) (by show 0 ≤ q.bytes + t.size + c.bytes; omega) (by show q.bytes + t.size + c.bytes ≤ 16384; omega)
      ⟨by show q.nodes + 1 + c.nodes + r.nodes ≤ 1024; omega, fun _ => by omega, by show q.bytes + t.size + c.bytes + r.bytes ≤ 16384; omega⟩
    rw [wlk]
    simp only [hb, Bool.false_eq_true, if_false, hc, if_true, hr, Fo.nodes, Fo.bytes, Fo.kinds]
    refine Prod.ext ?_ rfl
    have hp := Fo.depth_cons k n t c r
    rw [if_neg (show ¬ (Fo.cons k n t c r).depth = 0 by omega)]
    simp only [Cnt.mk.injEq]
    refine ⟨by omega, ?_, by omega⟩
    simp only [Fo.depth]
    by_cases hcn : c.depth = 0 <;> by_cases hrn : r.depth = 0
    · simp only [hcn, hrn, if_true, mx2]; repeat' split
      all_goals omega
    · simp only [hcn, hrn, if_true, if_false, mx2]; repeat' split
      all_goals omega
    · simp only [hcn, hrn, if_true, if_false, mx2]; repeat' split
      all_goals omega
    · simp only [hcn, hrn, if_false, mx2_max]
      omega
theorem wlk_only : ∀ (f : Fo) (d : Int) (q : Cnt), 0 ≤ q.nodes → q.nodes ≤ 1024 → 0 ≤ q.bytes → q.bytes ≤ 16384 → (wlk f d q).2.1 = true → q.nodes + f.nodes ≤ 1024 ∧ (0 < f.depth → d + f.depth ≤ 65) ∧ q.bytes + f.bytes ≤ 16384
  | .nil, d, q, _, h2, _, h4, _ => by simp [Fo.nodes, Fo.bytes, Fo.depth]; omega
  | .cons k n t c r, d, q, h1, h2, h3, h4, ht => by
    by_cases hb : (q.add d t).bad d = true
    · rw [wlk] at ht; simp [hb] at ht
    · have hb : (q.add d t).bad d = false := by simpa using hb
      obtain ⟨b1, b2, b3⟩ := Cnt.good_cases hb
      rw [wlk] at ht
      simp only [hb, Bool.false_eq_true, if_false] at ht
      by_cases hc : (wlk c (d + 1) (q.add d t)).2.1 = true
      · simp only [hc, if_true] at ht
        have e1 : (q.add d t).nodes = q.nodes + 1 := rfl
        have e2 : (q.add d t).bytes = q.bytes + t.size := rfl
        have ic := wlk_only c (d + 1) (q.add d t) (by omega) (by omega) (by omega) (by omega) hc
        rw [wlk_true c (d + 1) (q.add d t) (by omega) (by omega) (by omega) (by omega) ic] at ht
        rw [e1, e2] at ic ht
        have ir := wlk_only r d _ (by show 0 ≤ q.nodes + 1 + c.nodes; omega) (by show q.nodes + 1 + c.nodes ≤ 1024; omega) (by show 0 ≤ q.bytes + t.size + c.bytes; omega) (by show q.bytes + t.size + c.bytes ≤ 16384; omega) ht
        have ir1 : q.nodes + 1 + c.nodes + r.nodes ≤ 1024 := ir.1
        have ir2 := ir.2.1
        have ic2 := ic.2.1
        have ir3 : q.bytes + t.size + c.bytes + r.bytes ≤ 16384 := ir.2.2
        refine ⟨by simp only [Fo.nodes]; omega, fun _ => ?_, by simp only [Fo.bytes]; omega⟩
        simp only [Fo.depth]
        omega
      · simp [hc] at ht

/-- A tree's numbers. -/
def Nd.nodes (x : Nd) : Nat := x.c.nodes + 1
def Nd.depth (x : Nd) : Nat := x.c.depth + 1
def Nd.bytes (x : Nd) : Nat := x.t.size + x.c.bytes
def Nd.small (x : Nd) : Prop := x.nodes ≤ 1024 ∧ x.depth ≤ 64 ∧ x.bytes ≤ 16384
instance (x : Nd) : Decidable x.small := by unfold Nd.small; infer_instance
theorem wlk1_small (x : Nd) (h : x.small) : wlk1 x.k x.t x.c 1 ⟨0, 0, 0⟩ = (⟨x.nodes, x.depth, x.bytes⟩, true, x.k :: x.c.kinds) := by
  obtain ⟨h1, h2, h3⟩ := h
  simp only [Nd.nodes, Nd.depth, Nd.bytes] at h1 h2 h3
  have hb : ((⟨0, 0, 0⟩ : Cnt).add 1 x.t).bad 1 = false := good_of (by show (0 : Int) + 1 ≤ 1024; omega) (by omega) (by show (0 : Int) + x.t.size ≤ 16384; omega)
  rw [wlk1_good hb]
  have e1 : ((⟨0, 0, 0⟩ : Cnt).add 1 x.t).nodes = 1 := rfl
  have e2 : ((⟨0, 0, 0⟩ : Cnt).add 1 x.t).bytes = x.t.size := by simp [Cnt.add]
  have e3 : ((⟨0, 0, 0⟩ : Cnt).add 1 x.t).depth = 1 := rfl
  have hw := wlk_true x.c (1 + 1) ((⟨0, 0, 0⟩ : Cnt).add 1 x.t) (by omega) (by omega) (by omega) (by omega) ⟨by omega, fun _ => by omega, by omega⟩
  rw [hw, e1, e2, e3]
  refine Prod.ext ?_ rfl
  simp only [Cnt.mk.injEq, Nd.nodes, Nd.depth, Nd.bytes]
  refine ⟨by omega, ?_, by omega⟩
  by_cases hc : x.c.depth = 0
  · simp [hc]
  · simp only [hc, if_false, mx2]; split <;> omega
theorem wlk1_great (x : Nd) (h : ¬ x.small) : (wlk1 x.k x.t x.c 1 ⟨0, 0, 0⟩).2.1 = false := by
  cases ht : (wlk1 x.k x.t x.c 1 ⟨0, 0, 0⟩).2.1 with
  | false => rfl
  | true =>
    exfalso
    apply h
    by_cases hb : ((⟨0, 0, 0⟩ : Cnt).add 1 x.t).bad 1 = true
    · rw [wlk1, if_pos hb] at ht; simp at ht
    · have hb : ((⟨0, 0, 0⟩ : Cnt).add 1 x.t).bad 1 = false := by simpa using hb
      rw [wlk1_good hb] at ht
      obtain ⟨b1, b2, b3⟩ := Cnt.good_cases hb
      have b3 : (0 : Int) + x.t.size ≤ 16384 := b3
      have e1 : ((⟨0, 0, 0⟩ : Cnt).add 1 x.t).nodes = 1 := rfl
      have e2 : ((⟨0, 0, 0⟩ : Cnt).add 1 x.t).bytes = x.t.size := by simp [Cnt.add]
      have hw := wlk_only x.c (1 + 1) _ (by omega) (by omega) (by omega) (by omega) ht
      rw [e1, e2] at hw
      have h2 := hw.2.1
      refine ⟨by simp only [Nd.nodes]; omega, by simp only [Nd.depth]; omega, by simp only [Nd.bytes]; omega⟩
end Go.Proofs.Ytnphhibfiklfjaa
