/-
  The book of paths of layer 3; Room.
  Merged texts: XBook3P, XBook3, XBook3H, XRoom.
-/
import Derived.Test.YtnphhibfiklfjaaPkF

import Derived.Test.YtnphhibfiklfjaaSpoil

import Derived.ArgAppend

import Derived.IntWalk

import Derived.Test.YtnphhibfiklfjaaPkC

set_option linter.unusedVariables false

set_option linter.unusedSimpArgs false

/-!
  Lists of lists that are handed in, not new; a block filled with marks; append where there is room.
-/
namespace Go.Proofs.Ytnphhibfiklfjaa

open Go.RowKit

/-- One more list, which lies apart from the others. -/
theorem Lists.push2 {D te e s : Nat} {W Wq W3 : World} {lv : Value} {vs : List Value} {cs : List (Nat × List Value)} (h : Lists D te e s W lv vs cs) (hte : te ≠ e) {v lv' : Value} {c : Nat × List Value} {B : Nat}
    (hk : Keeps (fun _ => False) W Wq) (hr : W.ownsRow B e s v c.1 c.2) (hat : ∀ b, v.ownBlock = some b → D ≤ b ∧ ¬ Lists.Blk lv vs b)
    (hrow : W3.ownsRow D te 1 lv' (vs.length + 1) (vs ++ [v])) (hg : Keeps (fun b => lv.ownBlock = some b) Wq W3) :
    Lists D te e s W3 lv' (vs ++ [v]) (cs ++ [c]) := by
  have hget : ∀ (i : Nat) (u : Value), (vs ++ [v])[i]? = some u → (i < vs.length ∧ vs[i]? = some u) ∨ (i = vs.length ∧ u = v) := fun i u hu => by
    by_cases hi : i < vs.length
    · rw [List.getElem?_append_left hi] at hu
      exact .inl ⟨hi, hu⟩
    · have hi2 := (List.getElem?_eq_some_iff.1 hu).1
      have hi3 : i = vs.length := by simp at hi2; omega
      subst hi3
      rw [List.getElem?_append_right (Nat.le_refl _), Nat.sub_self] at hu
      exact .inr ⟨rfl, by simpa using hu.symm⟩
  have hold : ∀ (i : Nat) (u : Value) (b : Nat), vs[i]? = some u → u.ownBlock = some b → W3.heap[b]? = W.heap[b]? := fun i u b hu hb => by
    have h1 := h.lo (.inr ⟨u, List.mem_of_getElem? hu, hb⟩)
    rw [hg.block b (Nat.lt_of_lt_of_le h1.2 hk.size) (fun e => h.ne_row hte hu hb e), hk.block b h1.2 (fun h => h)]
  have hnew : ∀ b, v.ownBlock = some b → W3.heap[b]? = W.heap[b]? := fun b hb => by
    have h1 := (hr.lt b hb).2
    rw [hg.block b (Nat.lt_of_lt_of_le h1 hk.size) (fun e => (hat b hb).2 (.inl e)), hk.block b h1 (fun h => h)]
  refine ⟨by simpa using hrow, by simp [h.len], fun i u d hu hd => ?_, fun i j u u' b hu hu' hb hb' => ?_⟩
  · rcases hget i u hu with ⟨hi, hu⟩ | ⟨rfl, rfl⟩
    · rw [List.getElem?_append_left (by rw [h.len]; exact hi)] at hd
      exact ownsRow_same (h.rows i u d hu hd) (fun b hm => hold i u b hu (by simpa using hm))
    · rw [List.getElem?_append_right (by rw [h.len]; exact Nat.le_refl _), h.len, Nat.sub_self] at hd
      simp only [List.getElem?_cons_zero, Option.some.injEq] at hd
      subst hd
      have h1 := ownsRow_same hr (fun b hm => hnew b (by simpa using hm))
      exact ⟨h1.1, h1.2.imp id (fun ⟨g, cap, cur, a, _, z⟩ => ⟨g, cap, cur, a, (hat g (by rw [a]; rfl)).1, z⟩)⟩
  · rcases hget i u hu with ⟨hi, h1⟩ | ⟨rfl, rfl⟩
    · rcases hget j u' hu' with ⟨hj, h2⟩ | ⟨rfl, rfl⟩
      · exact h.apart i j u u' b h1 h2 hb hb'
      · exact absurd (.inr ⟨u, List.mem_of_getElem? h1, hb⟩) (hat b hb').2
    · rcases hget j u' hu' with ⟨hj, h2⟩ | ⟨rfl, rfl⟩
      · exact absurd (.inr ⟨u', List.mem_of_getElem? h2, hb'⟩) (hat b hb).2
      · rfl
/-- What stands in a row does not matter. -/
theorem Lists.any {D te e s : Nat} {W W1 : World} {lv : Value} {vs : List Value} {cs : List (Nat × List Value)} (h : Lists D te e s W lv vs cs) (hte : te ≠ e) {i : Nat} {v : Value} {c : Nat × List Value} (hv : vs[i]? = some v) (hc : cs[i]? = some c) (hk : Keeps (fun b => v.ownBlock = some b) W W1)
    (hr : ∃ xs, W1.ownsRow D e s v c.1 xs) : ∃ cs', Lists D te e s W1 lv vs cs' := by
  obtain ⟨xs, hr⟩ := hr
  exact ⟨_, h.write hte (c' := (c.1, xs)) hv hc hk hr⟩
/-- Of cap places the first k hold the mark. -/
structure PM (g cap : Nat) (mark : Int) (k : Nat) (W : World) : Prop where
  blk : ∃ cur, W.heap[g]? = some (.cells cur 3 (0, 0)) ∧ cur.size = cap
  cells : ∀ j, j < k → W.cell? ⟨g, j, none⟩ = some (.int .i64 mark)
theorem PM.keeps {g cap : Nat} {mark : Int} {k : Nat} {S : Nat → Prop} {W W1 : World} (h : PM g cap mark k W) (hk : Keeps S W W1) (hS : ¬ S g) : PM g cap mark k W1 := by
  obtain ⟨cur, h1, h2⟩ := h.blk
  exact ⟨⟨cur, (hk.block g (heap_lt h1) hS).trans h1, h2⟩, fun j hj => (hk.cell (p := ⟨g, j, none⟩) (heap_lt h1) hS).trans (h.cells j hj)⟩
theorem PM.set {g cap : Nat} {mark : Int} {k : Nat} {W : World} (h : PM g cap mark k W) (hk : k < cap) : PM g cap mark (k + 1) (W.setCell ⟨g, k, none⟩ (.int .i64 mark)) := by
  obtain ⟨cur, h1, h2⟩ := h.blk
  refine ⟨⟨_, heap_set h1 _ _, by simpa using h2⟩, fun j hj => ?_⟩
  by_cases hjk : j = k
  · subst hjk
    have : W.cell? ⟨g, j, none⟩ = some (cur[j]'(by omega)) := by simp [World.cell?, h1, h2, hk]
    exact cell_same this
  · rw [cell_other (by omega)]
    exact h.cells j (by omega)
theorem PM.any {g cap : Nat} {mark : Int} {k : Nat} {W : World} (h : PM g cap mark k W) : (∀ j, j < cap → ∃ v, W.cell? ⟨g, j, none⟩ = some v) ∧ ∀ j, W.frozen? ⟨g, j, none⟩ = false := by
  obtain ⟨cur, h1, h2⟩ := h.blk
  exact ⟨fun j hj => ⟨cur[j]'(by omega), by simp [World.cell?, h1, h2, hj]⟩, fun j => by simp [World.frozen?, h1]⟩
theorem PM.row {g cap n : Nat} {mark : Int} {k : Nat} {W : World} (h : PM g cap mark k W) (h1 : n ≤ cap) (h2 : cap ≤ 9223372036854775807) {D : Nat} (hD : D ≤ g) : ∃ xs, W.ownsRow D 3 1 (.slice (some ⟨g, 0, none⟩) n cap) n xs := by
  obtain ⟨cur, h3, h4⟩ := h.blk
  exact ⟨cur.toList.take (n * 1), by simp [h4]; omega, .inr ⟨g, cap, cur, rfl, hD, h3, h1, by unfold maxLen; exact h2, by omega, rfl⟩⟩
theorem PM.start {W : World} {D n : Nat} {g cap : Nat} {xs : List Value} (h : W.ownsRow D 3 1 (.slice (some ⟨g, 0, none⟩) n cap) n xs) (mark : Int) : PM g cap mark 0 W := by
  rcases h.2 with ⟨h1, _⟩ | ⟨g', cap', cur, h1, _, h2, _, _, h3, _⟩
  · simp at h1
  · simp only [Value.slice.injEq, Option.some.injEq, Addr.mk.injEq, and_true, true_and] at h1
    obtain ⟨rfl, rfl⟩ := h1
    exact ⟨⟨cur, h2, by omega⟩, fun j hj => by omega⟩
theorem PM.setAll {g cap : Nat} {mark : Int} {k : Nat} {W : World} (h : PM g cap mark k W) (hk : k < cap) : ∀ g', some (⟨g, 0, none⟩ : Addr) = some ⟨g', 0, none⟩ → PM g' cap mark (k + 1) (W.setCell ⟨g, k, none⟩ (.int .i64 mark)) := fun g' e => by
  simp only [Option.some.injEq, Addr.mk.injEq, and_true] at e
  subst e
  exact h.set hk
/-- 'p = append(p, v)' where there is room. -/
theorem wpList_roomy {P : Program} (w : World) {ops : Array Oper} {rest : List Oper} {o : Oper} {a : Act} {Q : Exit → Act → World → Prop} (hg : o.guard = none) (s x : Operand) (t : TypeId)
    (ho : o.op = Op.call { callee := Callee.builtin Builtin.append, args := #[s, x], argTypes := #[t, t] }) (e : TypeId) (i : TypeInfo) (ht : P.underlying t = some (.slice e)) (hi : P.info? e = some i) (h1 : i.size = 1)
    (g n cap : Nat) (hs : a.eval s = .slice (some ⟨g, 0, none⟩) n cap) (ab : Nat) (c : Nat) (v : Value) (hx : a.eval x = .slice (some ⟨ab, 0, none⟩) 1 c) (hv : w.cell? ⟨ab, 0, none⟩ = some v) (h1c : v.oneCell' = true)
    (hroom : n < cap) (hc : ∃ u, w.cell? ⟨g, n, none⟩ = some u) (hf : w.frozen? ⟨g, n, none⟩ = false)
    (hK : wpList P ops Q rest (a.put o.dst (.slice (some ⟨g, 0, none⟩) (n + 1) cap)) (w.setCell ⟨g, n, none⟩ v)) : wpList P ops Q (o :: rest) a w := by
  refine wpList_plain hg fun K hK' => ?_
  obtain ⟨u, hu⟩ := hc
  have hz : ∀ j : Nat, j < 1 → 0 + n * 1 + j = n := fun j hj => by omega
  have hrun := run_append_room_cells (P := P) w t o.type e i ht hi g 0 n cap ⟨ab, 0, none⟩ 1 c [v] (by simp [h1]) (fun j u' hu' => by
    match j, hu' with
    | 0, hu' =>
      simp only [List.getElem?_cons_zero, Option.some.injEq] at hu'
      subst hu'
      rw [add0]
      exact hv) (by simpa using h1c) (by omega) (fun j hj => by rw [h1, hz j (by simpa using hj), hu]; rfl) (fun j hj => by rw [h1, hz j (by simpa using hj)]; exact hf)
  have he : w.setCells g (0 + n * i.size) [v] = w.setCell ⟨g, n, none⟩ v := by rw [h1, show 0 + n * 1 = n by omega]; rfl
  rw [he] at hrun
  unfold Oper.wp
  simp [execOp, ho, resolve, invoke, builtin, hs, hx, hrun, Result.andThen]
  exact hK' _ _ hK
end Go.Proofs.Ytnphhibfiklfjaa

/-!
  (*espalierlaw3.Book).Take, Held: their walks.
-/
namespace Go.Proofs.Ytnphhibfiklfjaa

open Go.RowKit

theorem Try.intInfo3 : (Try.prog.info? 3).map (fun i => (i.zero, i.size, i.bytes)) = some (some (.int .i64 0), 1, 8) := by kernel_rfl
theorem Try.rowInfo3 : (Try.prog.info? TI).map (fun i => (i.zero, i.size, i.bytes)) = some (some (.slice none 0 0), 1, 24) := by kernel_rfl
theorem box1 {W : World} {b : Nat} {v : Value} {ty : TypeId} (h : W.heap[b]? = some (.cells #[v] ty (0, 0))) : W.cell? ⟨b, 0, none⟩ = some v ∧ W.frozen? ⟨b, 0, none⟩ = false := by
  simp [World.cell?, World.frozen?, h]
section

variable {D pb : Nat} {W W1 : World} {lv : Value} {vs : List Value} {cs : List (Nat × List Value)}

end

theorem grow_box {V w3 : World} {pb : Nat} {o ob : Obj} {v : Value} (hbox : V.heap[pb]? = some ob) (hg : (V.alloc o).grownBy w3 v.ownBlock) (hne : v.ownBlock ≠ some pb) : w3.heap[pb]? = some ob := by
  rw [hg.block pb (by have := heap_lt hbox; simp; omega) (fun h => hne h.symm), Below.heap_alloc _ _ _ (heap_lt hbox)]
  exact hbox
end Go.Proofs.Ytnphhibfiklfjaa

/-!
  (*espalierlaw3.Book).Held: its walk.
-/
namespace Go.Proofs.Ytnphhibfiklfjaa

open Go.RowKit

end Go.Proofs.Ytnphhibfiklfjaa

/-!
  espalierlaw4.Room: its walk.
-/
namespace Go.Proofs.Ytnphhibfiklfjaa

open Go.RowKit

def roomF (n a : Int) : Int := if n + 70000 < a then n + 70000 else a
theorem Room_any (n a : Int) (h0 : 0 ≤ n) (h1 : n ≤ 4611686018427387904) (w : World) : Calls Try.prog 45 #[.int .i64 n, .int .i64 a] w fun e w' => e = .returned (.int .i64 (roomF n a)) ∧ w = w' := by
  by_cases h : n + 70000 < a
  · have hf : Hid (roomF n a = n + 70000) := by show roomF n a = _; rw [roomF, if_pos h]
    go_enter Try.func45, Try.ntmps45
    go_wp2_with fail
    go_ret
    exact ⟨by rw [hf.out]; rfl, rfl⟩
  · have hf : Hid (roomF n a = a) := by show roomF n a = _; rw [roomF, if_neg h]
    go_enter Try.func45, Try.ntmps45
    go_wp2_with fail
    go_ret
    exact ⟨by rw [hf.out]; rfl, rfl⟩
end Go.Proofs.Ytnphhibfiklfjaa
