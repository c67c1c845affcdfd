/-
  espalierref24.great: what it reckons, and that it tells whether what is filled is small.
-/
import Derived.Test.YtccoihmibkpedaaRFill

set_option linter.unusedVariables false

set_option linter.unusedSimpArgs false

namespace Go.Proofs.Ytccoihmibkpedaa

open Go.RowKit

def yB (bs : List Bind) (nm : ByteArray) : Nd := (bget bs nm).getD ⟨⟨#[]⟩, 0, ⟨#[]⟩, .nil⟩
def addV (q : Cnt) (a : Int) (y : Nd) : Cnt := ⟨q.nodes + y.nodes, if q.depth < a + y.depth - 1 then a + y.depth - 1 else q.depth, q.bytes + y.bytes⟩
def okC (q : Cnt) : Bool := decide (q.nodes ≤ 1024) && decide (q.depth ≤ 64) && decide (q.bytes ≤ 16384)
def greatFo (bs : List Bind) : Fo → Int → Cnt → Cnt × Bool
  | .nil, _, q => (q, true)
  | .cons k n t c r, a, q =>
    let z := match varF k with
      | some nm => (addV q a (yB bs nm), okC (addV q a (yB bs nm)))
      | none => if okC (q.add a t) then greatFo bs c (a + 1) (q.add a t) else (q.add a t, false)
    if z.2 then greatFo bs r a z.1 else z
def great1 (bs : List Bind) (k t : ByteArray) (c : Fo) (a : Int) (q : Cnt) : Cnt × Bool := match varF k with
  | some nm => (addV q a (yB bs nm), okC (addV q a (yB bs nm)))
  | none => if okC (q.add a t) then greatFo bs c (a + 1) (q.add a t) else (q.add a t, false)
theorem greatFo_cons {bs : List Bind} {k n t c r} {a : Int} {q : Cnt} : greatFo bs (.cons k n t c r) a q = if (great1 bs k t c a q).2 then greatFo bs r a (great1 bs k t c a q).1 else great1 bs k t c a q := by
  simp only [greatFo, great1]
  first
    | rfl
    | (split <;> simp_all)
def totF (q : Cnt) (a : Int) (g : Fo) : Cnt := ⟨q.nodes + g.nodes, if q.depth < a + g.depth - 1 then a + g.depth - 1 else q.depth, q.bytes + g.bytes⟩
theorem okC_iff {q : Cnt} : okC q = true ↔ q.nodes ≤ 1024 ∧ q.depth ≤ 64 ∧ q.bytes ≤ 16384 := by
  simp only [okC, Bool.and_eq_true, decide_eq_true_eq, and_assoc]
theorem ite_max (a b : Int) : (if a < b then b else a) = max a b := by split <;> omega
theorem totF_addV (q : Cnt) (a : Int) (k t : ByteArray) (n : Int) (g : Fo) : totF (q.add a t) (a + 1) g = addV q a ⟨k, n, t, g⟩ := by
  simp only [totF, addV, Cnt.add, Nd.nodes, Nd.depth, Nd.bytes, ite_max, Cnt.mk.injEq]
  refine ⟨by omega, by omega, by omega⟩
theorem totF_cons (q : Cnt) (a : Int) (y : Nd) (r : Fo) (ha : a - 1 ≤ q.depth) : totF (addV q a y) a r = totF q a (.cons y.k y.n y.t y.c r) := by
  simp only [totF, addV, Nd.nodes, Nd.depth, Nd.bytes, Fo.nodes, Fo.depth, Fo.bytes, ite_max, Cnt.mk.injEq]
  refine ⟨by omega, by omega, by omega⟩
theorem addV_mono (q : Cnt) (a : Int) (k t : ByteArray) (n : Int) (g : Fo) (h : okC (addV q a ⟨k, n, t, g⟩) = true) : okC (q.add a t) = true := by
  rw [okC_iff] at h ⊢
  simp only [addV, Cnt.add, Nd.nodes, Nd.depth, Nd.bytes, ite_max] at h ⊢
  omega
theorem totF_mono (q : Cnt) (a : Int) (y : Nd) (r : Fo) (h : okC (totF q a (.cons y.k y.n y.t y.c r)) = true) : okC (addV q a y) = true := by
  rw [okC_iff] at h ⊢
  simp only [totF, addV, Nd.nodes, Nd.depth, Nd.bytes, Fo.nodes, Fo.depth, Fo.bytes, ite_max] at h ⊢
  omega
theorem greatFo_law (bs : List Bind) : ∀ (f : Fo) (a : Int) (q : Cnt), okC q = true → a - 1 ≤ q.depth →
    (greatFo bs f a q).2 = okC (totF q a (fillFo bs f)) ∧ ((greatFo bs f a q).2 = true → (greatFo bs f a q).1 = totF q a (fillFo bs f)) := by
  intro f
  induction f with
  | nil =>
    intro a q hq ha
    have : totF q a (fillFo bs .nil) = q := by
      simp only [fillFo, totF, Fo.nodes, Fo.depth, Fo.bytes, ite_max]
      cases q
      simp only [Cnt.mk.injEq] at *
      refine ⟨by omega, by omega, by omega⟩
    rw [this]
    exact ⟨hq.symm, fun _ => rfl⟩
  | cons k n t c r ihc ihr =>
    intro a q hq ha
    have hone : (great1 bs k t c a q).2 = okC (addV q a (fill1 bs ⟨k, n, t, c⟩)) ∧ ((great1 bs k t c a q).2 = true → (great1 bs k t c a q).1 = addV q a (fill1 bs ⟨k, n, t, c⟩)) := by
      unfold great1 fill1
      cases hv : varF k with
      | some nm => exact ⟨rfl, fun _ => rfl⟩
      | none =>
        simp only
        by_cases hk : okC (q.add a t) = true
        · rw [if_pos hk]
          obtain ⟨h1, h2⟩ := ihc (a + 1) (q.add a t) hk (by simp only [Cnt.add, ite_max]; omega)
          rw [totF_addV q a k t n] at h1 h2
          exact ⟨h1, h2⟩
        · rw [if_neg hk]
          refine ⟨?_, fun h => by simp at h⟩
          cases ho : okC (addV q a ⟨k, n, t, fillFo bs c⟩) with
          | false => rfl
          | true => exact absurd (addV_mono q a k t n _ ho) hk
    rw [greatFo_cons, fillFo_cons]
    by_cases hz : (great1 bs k t c a q).2 = true
    · rw [if_pos hz, hone.2 hz]
      have hok : okC (addV q a (fill1 bs ⟨k, n, t, c⟩)) = true := by rw [← hone.1]; exact hz
      have := ihr a (addV q a (fill1 bs ⟨k, n, t, c⟩)) hok (by simp only [addV, ite_max]; omega)
      rw [totF_cons q a _ _ ha] at this
      exact this
    · rw [if_neg hz]
      refine ⟨?_, fun h => absurd h hz⟩
      cases ho : okC (totF q a (.cons (fill1 bs ⟨k, n, t, c⟩).k (fill1 bs ⟨k, n, t, c⟩).n (fill1 bs ⟨k, n, t, c⟩).t (fill1 bs ⟨k, n, t, c⟩).c (fillFo bs r))) with
      | false => simpa using hz
      | true =>
        have := totF_mono q a _ _ ho
        rw [← hone.1] at this
        exact absurd this hz
theorem great1_law (bs : List Bind) (x : Nd) : (great1 bs x.k x.t x.c 1 ⟨0, 0, 0⟩).2 = decide (fill1 bs x).small := by
  have h := (greatFo_law bs (.cons x.k x.n x.t x.c .nil) 1 ⟨0, 0, 0⟩ rfl (by simp)).1
  rw [greatFo_cons, fillFo_cons, show (⟨x.k, x.n, x.t, x.c⟩ : Nd) = x from rfl] at h
  have hx : (if (great1 bs x.k x.t x.c 1 ⟨0, 0, 0⟩).2 then greatFo bs .nil 1 (great1 bs x.k x.t x.c 1 ⟨0, 0, 0⟩).1 else great1 bs x.k x.t x.c 1 ⟨0, 0, 0⟩).2 = (great1 bs x.k x.t x.c 1 ⟨0, 0, 0⟩).2 := by
    by_cases hz : (great1 bs x.k x.t x.c 1 ⟨0, 0, 0⟩).2 = true
    · rw [if_pos hz, hz]; rfl
    · rw [if_neg hz]
  rw [hx] at h
  rw [h, Bool.eq_iff_iff, okC_iff, decide_eq_true_eq]
  show _ ↔ _
  simp only [totF, fillFo, Fo.nodes, Fo.depth, Fo.bytes, ite_max]
  unfold Nd.small
  simp only [Nd.nodes, Nd.depth, Nd.bytes]
  constructor
  · rintro ⟨h1, h2, h3⟩; refine ⟨by omega, by omega, by omega⟩
  · rintro ⟨h1, h2, h3⟩; refine ⟨by omega, by omega, by omega⟩
/-- How the loop over the kids stands. -/
def greatC (bs : List Bind) (b : Bool) (q : Cnt) (f : Fo) (a : Int) : Cnt × Bool := if b then greatFo bs f a q else (q, false)
theorem greatC_step {bs : List Bind} {k n t c r} {q : Cnt} {f : Fo} {j : Nat} {a : Int} (hd : f.drop j = .cons k n t c r) : greatC bs true q (f.drop j) a = greatC bs (great1 bs k t c a q).2 (great1 bs k t c a q).1 (f.drop (j + 1)) a := by
  rw [hd, Fo.drop_step hd]
  unfold greatC
  rw [if_pos rfl, greatFo_cons]
  by_cases h : (great1 bs k t c a q).2 = true
  · rw [if_pos h, if_pos h]
  · rw [if_neg h, if_neg h]
    exact Prod.ext rfl (by simpa using h)
theorem greatC_end {bs : List Bind} {b : Bool} {q : Cnt} {f : Fo} {a : Int} (h : f = .nil) : greatC bs b q f a = (q, b) := by
  subst h
  unfold greatC
  cases b <;> rfl
/-- When it went through, the count fits. -/
theorem great1_ok {bs : List Bind} {k t : ByteArray} {c : Fo} {a : Int} {q : Cnt} (hq : okC q = true) (ha : a - 1 ≤ q.depth) (h : (great1 bs k t c a q).2 = true) : okC (great1 bs k t c a q).1 = true ∧ a - 1 ≤ (great1 bs k t c a q).1.depth := by
  have h1 := greatFo_law bs (.cons k 0 t c .nil) a q hq ha
  rw [greatFo_cons, if_pos h, fillFo_cons] at h1
  have h2 := h1.2 rfl
  have h3 : okC _ = true := h1.1.symm
  have e : (greatFo bs .nil a (great1 bs k t c a q).1).1 = (great1 bs k t c a q).1 := rfl
  rw [e] at h2
  rw [h2]
  refine ⟨h3, ?_⟩
  simp only [totF, ite_max]
  omega
/-- A count that can be told of. -/
def fitQ (q : Cnt) : Prop := 0 ≤ q.nodes ∧ 0 ≤ q.depth ∧ 0 ≤ q.bytes
theorem addV_fit {q : Cnt} {a : Int} {y : Nd} (h : fitQ q) : fitQ (addV q a y) := by
  obtain ⟨h1, h2, h3⟩ := h
  refine ⟨?_, ?_, ?_⟩ <;> simp only [addV, ite_max] <;> omega
theorem add_fitQ {q : Cnt} {a : Int} {t : ByteArray} (h : fitQ q) : fitQ (q.add a t) := by
  obtain ⟨h1, h2, h3⟩ := h
  refine ⟨?_, ?_, ?_⟩ <;> simp only [Cnt.add, ite_max] <;> omega
theorem greatFo_fit (bs : List Bind) : ∀ (f : Fo) (a : Int) (q : Cnt), fitQ q → fitQ (greatFo bs f a q).1 := by
  intro f
  induction f with
  | nil => intro a q h; exact h
  | cons k n t c r ihc ihr =>
    intro a q h
    rw [greatFo_cons]
    have h1 : fitQ (great1 bs k t c a q).1 := by
      unfold great1
      split
      · exact addV_fit h
      · split
        · exact ihc _ _ (add_fitQ h)
        · exact add_fitQ h
    split
    · exact ihr _ _ h1
    · exact h1
theorem great1_fit {bs : List Bind} {k t : ByteArray} {c : Fo} {a : Int} {q : Cnt} (h : fitQ q) : fitQ (great1 bs k t c a q).1 := by
  unfold great1
  split
  · exact addV_fit h
  · split
    · exact greatFo_fit bs _ _ _ (add_fitQ h)
    · exact add_fitQ h
end Go.Proofs.Ytccoihmibkpedaa
