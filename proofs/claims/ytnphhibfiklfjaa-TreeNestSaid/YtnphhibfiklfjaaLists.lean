/-
  Lists of lists, each in a block of its own: what growing one and writing one leave.
-/
import Derived.Test.YtnphhibfiklfjaaNestP
set_option linter.unusedVariables false
set_option linter.unusedSimpArgs false
namespace Go.Proofs.Ytnphhibfiklfjaa
open Go.RowKit

/-- lv: a list of the lists vs (whose type is te); each of them: so many elements, these values (of type e, s cells each). -/
structure Lists (D te e s : Nat) (W : World) (lv : Value) (vs : List Value) (cs : List (Nat × List Value)) : Prop where
  row : W.ownsRow D te 1 lv vs.length vs
  len : cs.length = vs.length
  rows : ∀ (i : Nat) (v : Value) (c : Nat × List Value), vs[i]? = some v → cs[i]? = some c → W.ownsRow D e s v c.1 c.2
  apart : ∀ (i j : Nat) (v v' : Value) (b : Nat), vs[i]? = some v → vs[j]? = some v' → v.ownBlock = some b → v'.ownBlock = some b → i = j
section
variable {D te e s : Nat} {W W1 : World} {lv : Value} {vs : List Value} {cs : List (Nat × List Value)}
/-- Their blocks. -/
def Lists.Blk (lv : Value) (vs : List Value) (b : Nat) : Prop := lv.ownBlock = some b ∨ ∃ v ∈ vs, v.ownBlock = some b
theorem Lists.at_ (h : Lists D te e s W lv vs cs) {i : Nat} (hi : i < vs.length) : ∃ v c, vs[i]? = some v ∧ cs[i]? = some c ∧ W.ownsRow D e s v c.1 c.2 := by
  have h1 := List.getElem?_eq_getElem hi
  have h2 : cs[i]? = some (cs[i]'(by rw [h.len]; exact hi)) := List.getElem?_eq_getElem _
  exact ⟨_, _, h1, h2, h.rows i _ _ h1 h2⟩
theorem Lists.lo (h : Lists D te e s W lv vs cs) {b : Nat} (hb : Lists.Blk lv vs b) : D ≤ b ∧ b < W.heap.size := by
  rcases hb with hb | ⟨v, hv, hb⟩
  · exact h.row.lt b hb
  · obtain ⟨i, hi⟩ := List.getElem?_of_mem hv
    obtain ⟨v', c, h1, _, h3⟩ := h.at_ (List.getElem?_eq_some_iff.1 hi).1
    rw [hi] at h1
    simp only [Option.some.injEq] at h1
    subst h1
    exact h3.lt b hb
theorem Lists.same (h : Lists D te e s W lv vs cs) (hb : ∀ b, Lists.Blk lv vs b → W1.heap[b]? = W.heap[b]?) : Lists D te e s W1 lv vs cs :=
  ⟨ownsRow_same h.row (fun b hm => hb b (.inl (by simpa using hm))), h.len, fun i v c hv hc => ownsRow_same (h.rows i v c hv hc) (fun b hm => hb b (.inr ⟨v, List.mem_of_getElem? hv, by simpa using hm⟩)), h.apart⟩
theorem Lists.keeps {S : Nat → Prop} (h : Lists D te e s W lv vs cs) (hk : Keeps S W W1) (hS : ∀ b, S b → ¬ Lists.Blk lv vs b) : Lists D te e s W1 lv vs cs :=
  h.same fun b hb => hk.block b (h.lo hb).2 (fun hs => hS b hs hb)
theorem Lists.ne_row (h : Lists D te e s W lv vs cs) (hte : te ≠ e) {i b : Nat} {v : Value} (hv : vs[i]? = some v) (hb : v.ownBlock = some b) : lv.ownBlock ≠ some b := by
  obtain ⟨v', c, h1, _, h3⟩ := h.at_ (List.getElem?_eq_some_iff.1 hv).1
  rw [hv] at h1
  simp only [Option.some.injEq] at h1
  subst h1
  exact rows_ne h3 h.row (fun e => hte e.symm) hb
/-- The i-th one is laid anew at what a grown or written row is, and the place that holds it is written. -/
theorem Lists.put (h : Lists D te e s W lv vs cs) (hte : te ≠ e) {i gl cl : Nat} (hlv : lv = .slice (some ⟨gl, 0, none⟩) vs.length cl) {v v' : Value} {c c' : Nat × List Value} (hv : vs[i]? = some v) (hc : cs[i]? = some c) (hk : Keeps (fun b => v.ownBlock = some b) W W1)
    (hr : W1.ownsRow D e s v' c'.1 c'.2) (hat : ∀ b, v'.ownBlock = some b → v.ownBlock = some b ∨ W.heap.size ≤ b) :
    Lists D te e s (W1.setCell ⟨gl, i, none⟩ v') lv (vs.set i v') (cs.set i c') ∧ Keeps (Lists.Blk lv vs) W (W1.setCell ⟨gl, i, none⟩ v') ∧ (∀ b, Lists.Blk lv (vs.set i v') b → Lists.Blk lv vs b ∨ W.heap.size ≤ b) := by
  have hil : i < vs.length := (List.getElem?_eq_some_iff.1 hv).1
  have hgl := h.row.lt gl (by rw [hlv]; rfl)
  have hnl : v.ownBlock ≠ some gl := fun hb => h.ne_row hte hv hb (by rw [hlv]; rfl)
  have hnl' : v'.ownBlock ≠ some gl := fun hb => by
    rcases hat gl hb with h1 | h1
    · exact hnl h1
    · omega
  have hk2 : Keeps (fun b => b = gl) W1 (W1.setCell ⟨gl, i, none⟩ v') := (Keeps.refl (fun b => b = gl) W1).setCell (p := ⟨gl, i, none⟩) (fun _ => rfl) _
  have hset : ∀ (j : Nat) (u : Value), (vs.set i v')[j]? = some u → (j = i ∧ u = v') ∨ (j ≠ i ∧ vs[j]? = some u) := fun j u hu => by
    by_cases hj : j = i
    · subst hj
      rw [List.getElem?_set_self hil] at hu
      exact .inl ⟨rfl, by simpa using hu.symm⟩
    · rw [List.getElem?_set_ne (fun e => hj e.symm)] at hu
      exact .inr ⟨hj, hu⟩
  have hrow1 : W1.ownsRow D te 1 lv vs.length vs := ownsRow_same h.row (fun b hm => by
    have hb : lv.ownBlock = some b := by simpa using hm
    exact hk.block b (h.row.lt b hb).2 (fun hvb => h.ne_row hte hv hvb hb))
  have hblk : ∀ (j : Nat) (u : Value) (b : Nat), vs[j]? = some u → u.ownBlock = some b → D ≤ b ∧ b < W.heap.size := fun j u b hu hb => h.lo (.inr ⟨u, List.mem_of_getElem? hu, hb⟩)
  refine ⟨⟨?_, by simp [h.len], ?_, ?_⟩, ?_, ?_⟩
  · rw [List.length_set]
    subst hlv
    exact ownsRow_set hrow1 i hil v'
  · intro j u d hu hd
    rcases hset j u hu with ⟨rfl, rfl⟩ | ⟨hj, hu⟩
    · rw [List.getElem?_set_self (by rw [h.len]; exact hil)] at hd
      simp only [Option.some.injEq] at hd
      subst hd
      exact ownsRow_same hr (fun b hm => by
        have hb : u.ownBlock = some b := by simpa using hm
        exact hk2.block b (hr.lt b hb).2 (fun e => hnl' (e ▸ hb)))
    · rw [List.getElem?_set_ne (fun e => hj e.symm)] at hd
      refine ownsRow_same (h.rows j u d hu hd) (fun b hm => ?_)
      have hb : u.ownBlock = some b := by simpa using hm
      have h2 := hblk j u b hu hb
      rw [hk2.block b (by have := hk.size; omega) (fun e => h.ne_row hte hu hb (by rw [hlv, e]; rfl)), hk.block b h2.2 (fun e => hj (h.apart j i u v b hu hv hb e))]
  · intro j1 j2 u1 u2 b h1 h2 hb1 hb2
    rcases hset j1 u1 h1 with ⟨rfl, rfl⟩ | ⟨hj1, g1⟩
    · rcases hset j2 u2 h2 with ⟨rfl, rfl⟩ | ⟨hj2, g2⟩
      · rfl
      · rcases hat b hb1 with h3 | h3
        · exact h.apart _ _ v u2 b hv g2 h3 hb2
        · have := (hblk j2 u2 b g2 hb2).2; omega
    · rcases hset j2 u2 h2 with ⟨rfl, rfl⟩ | ⟨hj2, g2⟩
      · rcases hat b hb2 with h3 | h3
        · exact h.apart _ _ u1 v b g1 hv hb1 h3
        · have := (hblk j1 u1 b g1 hb1).2; omega
      · exact h.apart _ _ u1 u2 b g1 g2 hb1 hb2
  · refine (hk.mono (S' := Lists.Blk lv vs) (fun b hb _ => .inr ⟨v, List.mem_of_getElem? hv, hb⟩)).trans' hk2 (fun b hb _ => .inl (by rw [hlv, hb]; rfl))
  · rintro b (hb | ⟨u, hu, hb⟩)
    · exact .inl (.inl hb)
    · obtain ⟨j, hj⟩ := List.getElem?_of_mem hu
      rcases hset j u hj with ⟨rfl, rfl⟩ | ⟨_, hu⟩
      · rcases hat b hb with h3 | h3
        · exact .inl (.inr ⟨v, List.mem_of_getElem? hv, h3⟩)
        · exact .inr h3
      · exact .inl (.inr ⟨u, List.mem_of_getElem? hu, hb⟩)
/-- The i-th one is written in place. -/
theorem Lists.write (h : Lists D te e s W lv vs cs) (hte : te ≠ e) {i : Nat} {v : Value} {c c' : Nat × List Value} (hv : vs[i]? = some v) (hc : cs[i]? = some c) (hk : Keeps (fun b => v.ownBlock = some b) W W1)
    (hr : W1.ownsRow D e s v c'.1 c'.2) : Lists D te e s W1 lv vs (cs.set i c') := by
  have hil : i < vs.length := (List.getElem?_eq_some_iff.1 hv).1
  refine ⟨ownsRow_same h.row (fun b hm => ?_), by simp [h.len], fun j u d hu hd => ?_, h.apart⟩
  · have hb : lv.ownBlock = some b := by simpa using hm
    exact hk.block b (h.row.lt b hb).2 (fun hvb => h.ne_row hte hv hvb hb)
  · by_cases hj : j = i
    · subst hj
      rw [List.getElem?_set_self (by rw [h.len]; exact hil)] at hd
      simp only [Option.some.injEq] at hd
      subst hd
      rw [hv] at hu
      simp only [Option.some.injEq] at hu
      subst hu
      exact hr
    · rw [List.getElem?_set_ne (fun e => hj e.symm)] at hd
      refine ownsRow_same (h.rows j u d hu hd) (fun b hm => ?_)
      have hb : u.ownBlock = some b := by simpa using hm
      exact hk.block b (h.lo (.inr ⟨u, List.mem_of_getElem? hu, hb⟩)).2 (fun e => hj (h.apart j i u v b hu hv hb e))
end
end Go.Proofs.Ytnphhibfiklfjaa
