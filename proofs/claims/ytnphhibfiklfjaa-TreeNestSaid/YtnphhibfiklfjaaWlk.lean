/-
  What tree.walk reckons, in plain Lean.
-/
import Derived.Test.YtnphhibfiklfjaaFo
set_option linter.unusedVariables false
set_option linter.unusedSimpArgs false
namespace Go.Proofs.Ytnphhibfiklfjaa
open Go.RowKit

structure Cnt where
  nodes : Int
  depth : Int
  bytes : Int
namespace Cnt
def bad (c : Cnt) (d : Int) : Bool := decide (1024 < c.nodes) || decide (64 < d) || decide (16384 < c.bytes)
def add (c : Cnt) (d : Int) (t : ByteArray) : Cnt := ⟨c.nodes + 1, if c.depth < d then d else c.depth, c.bytes + t.size⟩
def fit (c : Cnt) : Prop := 0 ≤ c.nodes ∧ c.nodes ≤ 1024 ∧ 0 ≤ c.bytes ∧ c.bytes ≤ 16384
theorem add_fit {c : Cnt} {d : Int} {t : ByteArray} (h : c.fit) (hb : (c.add d t).bad d = false) : (c.add d t).fit := by
  obtain ⟨h1, h2, h3, h4⟩ := h
  simp only [bad, Bool.or_eq_false_iff, decide_eq_false_iff_not] at hb
  obtain ⟨⟨b1, b2⟩, b3⟩ := hb
  refine ⟨by simp only [add]; omega, by omega, by simp only [add]; omega, by omega⟩
theorem bad_cases {c : Cnt} {d : Int} {t : ByteArray} (h : (c.add d t).bad d = true) : 1024 < c.nodes + 1 ∨ (c.nodes + 1 ≤ 1024 ∧ 64 < d) ∨ (c.nodes + 1 ≤ 1024 ∧ d ≤ 64 ∧ 16384 < c.bytes + t.size) := by
  simp only [bad, Bool.or_eq_true, decide_eq_true_eq] at h
  simp only [add] at h
  omega
theorem good_cases {c : Cnt} {d : Int} {t : ByteArray} (h : (c.add d t).bad d = false) : c.nodes + 1 ≤ 1024 ∧ d ≤ 64 ∧ c.bytes + t.size ≤ 16384 := by
  simp only [bad, Bool.or_eq_false_iff, decide_eq_false_iff_not] at h
  simp only [add] at h
  omega
end Cnt
/-- The trees f, each at depth d: what has been counted, whether it went through, and the kinds that were seen. -/
def wlk : Fo → Int → Cnt → Cnt × Bool × List ByteArray
  | .nil, _, c => (c, true, [])
  | .cons k _ t cs r, d, c =>
    if (c.add d t).bad d then (c.add d t, false, [])
    else if (wlk cs (d + 1) (c.add d t)).2.1 then
      ((wlk r d (wlk cs (d + 1) (c.add d t)).1).1, (wlk r d (wlk cs (d + 1) (c.add d t)).1).2.1, k :: (wlk cs (d + 1) (c.add d t)).2.2 ++ (wlk r d (wlk cs (d + 1) (c.add d t)).1).2.2)
    else ((wlk cs (d + 1) (c.add d t)).1, false, k :: (wlk cs (d + 1) (c.add d t)).2.2)
/-- One tree. -/
def wlk1 (k t : ByteArray) (cs : Fo) (d : Int) (c : Cnt) : Cnt × Bool × List ByteArray :=
  if (c.add d t).bad d then (c.add d t, false, []) else ((wlk cs (d + 1) (c.add d t)).1, (wlk cs (d + 1) (c.add d t)).2.1, k :: (wlk cs (d + 1) (c.add d t)).2.2)
theorem wlk_cons_true {k n t cs r d c} (h : (wlk1 k t cs d c).2.1 = true) : wlk (.cons k n t cs r) d c = ((wlk r d (wlk1 k t cs d c).1).1, (wlk r d (wlk1 k t cs d c).1).2.1, (wlk1 k t cs d c).2.2 ++ (wlk r d (wlk1 k t cs d c).1).2.2) := by
  unfold wlk1 at h ⊢
  by_cases hb : (c.add d t).bad d = true
  · simp [hb] at h
  · simp only [hb] at h ⊢
    rw [wlk]
    simp only [hb, if_false, Bool.false_eq_true] at h ⊢
    simp [h]
theorem wlk_cons_false {k n t cs r d c} (h : (wlk1 k t cs d c).2.1 = false) : wlk (.cons k n t cs r) d c = wlk1 k t cs d c := by
  unfold wlk1 at h ⊢
  by_cases hb : (c.add d t).bad d = true
  · rw [wlk]; simp [hb]
  · simp only [hb, if_false, Bool.false_eq_true] at h ⊢
    rw [wlk]
    simp [h, hb]
theorem wlk_fit : ∀ (f : Fo) (d : Int) (c : Cnt), c.fit → (wlk f d c).2.1 = true → (wlk f d c).1.fit
  | .nil, _, _, h, _ => h
  | .cons k n t cs r, d, c, h, ht => by
    rw [wlk] at ht ⊢
    by_cases hb : (c.add d t).bad d = true
    · simp [hb] at ht
    · simp only [hb, if_false, Bool.false_eq_true] at ht ⊢
      by_cases h1 : (wlk cs (d + 1) (c.add d t)).2.1 = true
      · simp only [h1, if_true] at ht ⊢
        exact wlk_fit r d _ (wlk_fit cs (d + 1) _ (Cnt.add_fit h (by simpa using hb)) h1) ht
      · simp [h1] at ht
theorem wlk1_fit {k t cs d c} (h : Cnt.fit c) (ht : (wlk1 k t cs d c).2.1 = true) : (wlk1 k t cs d c).1.fit := by
  unfold wlk1 at ht ⊢
  by_cases hb : (c.add d t).bad d = true
  · simp [hb] at ht
  · simp only [hb, if_false, Bool.false_eq_true] at ht ⊢
    exact wlk_fit cs (d + 1) _ (Cnt.add_fit h (by simpa using hb)) ht

theorem wlk1_good {k t cs d} {c : Cnt} (h : (c.add d t).bad d = false) : wlk1 k t cs d c = ((wlk cs (d + 1) (c.add d t)).1, (wlk cs (d + 1) (c.add d t)).2.1, k :: (wlk cs (d + 1) (c.add d t)).2.2) := by
  unfold wlk1
  simp [h]
theorem wlk_len : ∀ (f : Fo) (d : Int) (q : Cnt), (wlk f d q).2.1 = true → ((wlk f d q).2.2.length : Int) + q.nodes = (wlk f d q).1.nodes
  | .nil, _, _, _ => by simp [wlk]
  | .cons k n t cs r, d, q, h => by
    by_cases hb : (q.add d t).bad d = true
    · rw [wlk] at h; simp [hb] at h
    · rw [wlk] at h ⊢
      simp only [hb, Bool.false_eq_true, if_false] at h ⊢
      by_cases hc : (wlk cs (d + 1) (q.add d t)).2.1 = true
      · simp only [hc, if_true] at h ⊢
        have h1 := wlk_len cs (d + 1) (q.add d t) hc
        have h2 := wlk_len r d _ h
        have e1 : (q.add d t).nodes = q.nodes + 1 := rfl
        simp only [List.length_cons, List.length_append]
        omega
      · simp [hc] at h
theorem wlk1_len {k t cs d} {q : Cnt} (h : (wlk1 k t cs d q).2.1 = true) : ((wlk1 k t cs d q).2.2.length : Int) + q.nodes = (wlk1 k t cs d q).1.nodes := by
  by_cases hb : (q.add d t).bad d = true
  · rw [wlk1, if_pos hb] at h; simp at h
  · have hb : (q.add d t).bad d = false := by simpa using hb
    rw [wlk1_good hb] at h ⊢
    have h1 := wlk_len cs (d + 1) (q.add d t) h
    have e1 : (q.add d t).nodes = q.nodes + 1 := rfl
    simp only [List.length_cons]
    omega
/-- From the j-th on: what is known of the whole. -/
def Part (c : Fo) (d : Int) (q : Cnt) (j : Nat) (qj : Cnt) (lj : List ByteArray) : Prop := wlk c d q = ((wlk (c.drop j) d qj).1, (wlk (c.drop j) d qj).2.1, lj ++ (wlk (c.drop j) d qj).2.2)
theorem Part.start (c : Fo) (d : Int) (q : Cnt) : Part c d q 0 q [] := by simp [Part, Fo.drop]
theorem Part.step {c : Fo} {d : Int} {q : Cnt} {j : Nat} {qj q2 : Cnt} {lj l2 : List ByteArray} {k n t cs r} (h : Part c d q j qj lj) (hd : c.drop j = .cons k n t cs r) (hr : wlk1 k t cs d qj = (q2, true, l2)) : Part c d q (j + 1) q2 (lj ++ l2) := by
  unfold Part at h ⊢
  rw [hd, wlk_cons_true (by rw [hr]), hr] at h
  rw [Fo.drop_step hd, h]
  simp
theorem Part.stop {c : Fo} {d : Int} {q : Cnt} {j : Nat} {qj q2 : Cnt} {lj l2 : List ByteArray} {k n t cs r} (h : Part c d q j qj lj) (hd : c.drop j = .cons k n t cs r) (hr : wlk1 k t cs d qj = (q2, false, l2)) : wlk c d q = (q2, false, lj ++ l2) := by
  unfold Part at h
  rw [hd, wlk_cons_false (by rw [hr]), hr] at h
  exact h
theorem Part.done {c : Fo} {d : Int} {q : Cnt} {j : Nat} {qj : Cnt} {lj : List ByteArray} (h : Part c d q j qj lj) (hj : c.len ≤ j) : wlk c d q = (qj, true, lj) := by
  unfold Part at h
  rw [Fo.drop_len_le hj] at h
  simpa [wlk] using h

/-- The boxes of one call of walk: h: see; then nodes, depth, bytes; then down. -/
structure Boxes (W : World) (h : Nat) (q : Cnt) (see down : Value) : Prop where
  size : h + 4 < W.heap.size
  see : W.cell? ⟨h, 0, none⟩ = some see
  nodes : W.cell? ⟨h + 1, 0, none⟩ = some (.int .i64 q.nodes)
  depth : W.cell? ⟨h + 2, 0, none⟩ = some (.int .i64 q.depth)
  bytes : W.cell? ⟨h + 3, 0, none⟩ = some (.int .i64 q.bytes)
  down : W.cell? ⟨h + 4, 0, none⟩ = some down
  fn : W.frozen? ⟨h + 1, 0, none⟩ = false
  fd : W.frozen? ⟨h + 2, 0, none⟩ = false
  fb : W.frozen? ⟨h + 3, 0, none⟩ = false
theorem Boxes.keeps {W W1 : World} {h : Nat} {q : Cnt} {see down : Value} {S : Nat → Prop} (hB : Boxes W h q see down) (hk : Keeps S W W1) (hS : ∀ b, S b → b < h ∨ h + 5 ≤ b) : Boxes W1 h q see down := by
  have hn : ∀ j, j < 5 → ¬ S (h + j) := fun j _ hs => by have := hS _ hs; omega
  have hl := hB.size
  exact ⟨Nat.lt_of_lt_of_le hl hk.size, (hk.cell (p := ⟨h, 0, none⟩) (by show h < _; omega) (hn 0 (by omega))).trans hB.see, (hk.cell (p := ⟨h + 1, 0, none⟩) (by show h + 1 < _; omega) (hn 1 (by omega))).trans hB.nodes,
    (hk.cell (p := ⟨h + 2, 0, none⟩) (by show h + 2 < _; omega) (hn 2 (by omega))).trans hB.depth, (hk.cell (p := ⟨h + 3, 0, none⟩) (by show h + 3 < _; omega) (hn 3 (by omega))).trans hB.bytes, (hk.cell (p := ⟨h + 4, 0, none⟩) (by show h + 4 < _; omega) (hn 4 (by omega))).trans hB.down,
    (hk.frozen (p := ⟨h + 1, 0, none⟩) (by show h + 1 < _; omega) (hn 1 (by omega))).trans hB.fn, (hk.frozen (p := ⟨h + 2, 0, none⟩) (by show h + 2 < _; omega) (hn 2 (by omega))).trans hB.fd, (hk.frozen (p := ⟨h + 3, 0, none⟩) (by show h + 3 < _; omega) (hn 3 (by omega))).trans hB.fb⟩
end Go.Proofs.Ytnphhibfiklfjaa
