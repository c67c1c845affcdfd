/-
  The book of paths of layer 3; Room.
  Merged texts: XBook3P, XBook3, XBook3H, XRoom.
-/
import Derived.Test.YtccoihmibkpedaaPkF

import Derived.Test.YtccoihmibkpedaaSpoil

import Derived.ArgAppend

import Derived.IntWalk

import Derived.Test.YtccoihmibkpedaaPkC

set_option linter.unusedVariables false

set_option linter.unusedSimpArgs false

/-!
  Lists of lists that are handed in, not new; a block filled with marks; append where there is room.
-/
namespace Go.Proofs.Ytccoihmibkpedaa

open Go.RowKit

/-- One more list, which lies apart from the others. -/
theorem Lists.push2 {D te e s : Nat} {W Wq W3 : World} {lv : Value} {vs : List Value} {cs : List (Nat × List Value)} (h : Lists D te e s W lv vs cs) (hte : te ≠ e) {v lv' : Value} {c : Nat × List Value} {B : Nat}
    (hk : Keeps (fun _ => False) W Wq) (hr : W.ownsRow B e s v c.1 c.2) (hat : ∀ b, v.ownBlock = some b → D ≤ b ∧ ¬ Lists.Blk lv vs b)
    (hrow : W3.ownsRow D te 1 lv' (vs.length + 1) (vs ++ [v])) (hg : Keeps (fun b => lv.ownBlock = some b) Wq W3) :
    Lists D te e s W3 lv' (vs ++ [v]) (cs ++ [c]) := by
  have hget : ∀ (i : Nat) (u : Value), (vs ++ [v])[i]? = some u → (i < vs.length ∧ vs[i]? = some u) ∨ (i = vs.length ∧ u = v) := fun i u hu => by
    by_cases hi : i < vs.length
    · rw [List.getElem?_append_left hi] at hu
      exact .inl ⟨hi, hu⟩
    · have hi2 := (List.getElem?_eq_some_iff.1 hu).1
      have hi3 : i = vs.length := by simp at hi2; omega
      subst hi3
      rw [List.getElem?_append_right (Nat.le_refl _), Nat.sub_self] at hu
      exact .inr ⟨rfl, by simpa using hu.symm⟩
  have hold : ∀ (i : Nat) (u : Value) (b : Nat), vs[i]? = some u → u.ownBlock = some b → W3.heap[b]? = W.heap[b]? := fun i u b hu hb => by
    have h1 := h.lo (.inr ⟨u, List.mem_of_getElem? hu, hb⟩)
    rw [hg.block b (Nat.lt_of_lt_of_le h1.2 hk.size) (fun e => h.ne_row hte hu hb e), hk.block b h1.2 (fun h => h)]
  have hnew : ∀ b, v.ownBlock = some b → W3.heap[b]? = W.heap[b]? := fun b hb => by
    have h1 := (hr.lt b hb).2
    rw [hg.block b (Nat.lt_of_lt_of_le h1 hk.size) (fun e => (hat b hb).2 (.inl e)), hk.block b h1 (fun h => h)]
  refine ⟨by simpa using hrow, by simp [h.len], fun i u d hu hd => ?_, fun i j u u' b hu hu' hb hb' => ?_⟩
  · rcases hget i u hu with ⟨hi, hu⟩ | ⟨rfl, rfl⟩
    · rw [List.getElem?_append_left (by rw [h.len]; exact hi)] at hd
      exact ownsRow_same (h.rows i u d hu hd) (fun b hm => hold i u b hu (by simpa using hm))
    · rw [List.getElem?_append_right (by rw [h.len]; exact Nat.le_refl _), h.len, Nat.sub_self] at hd
      simp only [List.getElem?_cons_zero, Option.some.injEq] at hd
      subst hd
      have h1 := ownsRow_same hr (fun b hm => hnew b (by simpa using hm))
      exact ⟨h1.1, h1.2.imp id (fun ⟨g, cap, cur, a, _, z⟩ => ⟨g, cap, cur, a, (hat g (by rw [a]; rfl)).1, z⟩)⟩
  · rcases hget i u hu with ⟨hi, h1⟩ | ⟨rfl, rfl⟩
    · rcases hget j u' hu' with ⟨hj, h2⟩ | ⟨rfl, rfl⟩
      · exact h.apart i j u u' b h1 h2 hb hb'
      · exact absurd (.inr ⟨u, List.mem_of_getElem? h1, hb⟩) (hat b hb').2
    · rcases hget j u' hu' with ⟨hj, h2⟩ | ⟨rfl, rfl⟩
      · exact absurd (.inr ⟨u', List.mem_of_getElem? h2, hb'⟩) (hat b hb).2
      · rfl
/-- What stands in a row does not matter. -/
theorem Lists.any {D te e s : Nat} {W W1 : World} {lv : Value} {vs : List Value} {cs : List (Nat × List Value)} (h : Lists D te e s W lv vs cs) (hte : te ≠ e) {i : Nat} {v : Value} {c : Nat × List Value} (hv : vs[i]? = some v) (hc : cs[i]? = some c) (hk : Keeps (fun b => v.ownBlock = some b) W W1)
    (hr : ∃ xs, W1.ownsRow D e s v c.1 xs) : ∃ cs', Lists D te e s W1 lv vs cs' := by
  obtain ⟨xs, hr⟩ := hr
  exact ⟨_, h.write hte (c' := (c.1, xs)) hv hc hk hr⟩
/-- Of cap places the first k hold the mark. -/
structure PM (g cap : Nat) (mark : Int) (k : Nat) (W : World) : Prop where
  blk : ∃ cur, W.heap[g]? = some (.cells cur 3 (0, 0)) ∧ cur.size = cap
  cells : ∀ j, j < k → W.cell? ⟨g, j, none⟩ = some (.int .i64 mark)
theorem PM.keeps {g cap : Nat} {mark : Int} {k : Nat} {S : Nat → Prop} {W W1 : World} (h : PM g cap mark k W) (hk : Keeps S W W1) (hS : ¬ S g) : PM g cap mark k W1 := by
  obtain ⟨cur, h1, h2⟩ := h.blk
  exact ⟨⟨cur, (hk.block g (heap_lt h1) hS).trans h1, h2⟩, fun j hj => (hk.cell (p := ⟨g, j, none⟩) (heap_lt h1) hS).trans (h.cells j hj)⟩
theorem PM.set {g cap : Nat} {mark : Int} {k : Nat} {W : World} (h : PM g cap mark k W) (hk : k < cap) : PM g cap mark (k + 1) (W.setCell ⟨g, k, none⟩ (.int .i64 mark)) := by
  obtain ⟨cur, h1, h2⟩ := h.blk
  refine ⟨⟨_, heap_set h1 _ _, by simpa using h2⟩, fun j hj => ?_⟩
  by_cases hjk : j = k
  · subst hjk
    have : W.cell? ⟨g, j, none⟩ = some (cur[j]'(by omega)) := by simp [World.cell?, h1, h2, hk]
    exact cell_same this
  · rw [cell_other (by omega)]
    exact h.cells j (by omega)
theorem PM.any {g cap : Nat} {mark : Int} {k : Nat} {W : World} (h : PM g cap mark k W) : (∀ j, j < cap → ∃ v, W.cell? ⟨g, j, none⟩ = some v) ∧ ∀ j, W.frozen? ⟨g, j, none⟩ = false := by
  obtain ⟨cur, h1, h2⟩ := h.blk
  exact ⟨fun j hj => ⟨cur[j]'(by omega), by simp [World.cell?, h1, h2, hj]⟩, fun j => by simp [World.frozen?, h1]⟩
theorem PM.row {g cap n : Nat} {mark : Int} {k : Nat} {W : World} (h : PM g cap mark k W) (h1 : n ≤ cap) (h2 : cap ≤ 9223372036854775807) {D : Nat} (hD : D ≤ g) : ∃ xs, W.ownsRow D 3 1 (.slice (some ⟨g, 0, none⟩) n cap) n xs := by
  obtain ⟨cur, h3, h4⟩ := h.blk
  exact ⟨cur.toList.take (n * 1), by simp [h4]; omega, .inr ⟨g, cap, cur, rfl, hD, h3, h1, by unfold maxLen; exact h2, by omega, rfl⟩⟩
theorem PM.start {W : World} {D n : Nat} {g cap : Nat} {xs : List Value} (h : W.ownsRow D 3 1 (.slice (some ⟨g, 0, none⟩) n cap) n xs) (mark : Int) : PM g cap mark 0 W := by
  rcases h.2 with ⟨h1, _⟩ | ⟨g', cap', cur, h1, _, h2, _, _, h3, _⟩
  · simp at h1
  · simp only [Value.slice.injEq, Option.some.injEq, Addr.mk.injEq, and_true, true_and] at h1
    obtain ⟨rfl, rfl⟩ := h1
    exact ⟨⟨cur, h2, by omega⟩, fun j hj => by omega⟩
theorem PM.setAll {g cap : Nat} {mark : Int} {k : Nat} {W : World} (h : PM g cap mark k W) (hk : k < cap) : ∀ g', some (⟨g, 0, none⟩ : Addr) = some ⟨g', 0, none⟩ → PM g' cap mark (k + 1) (W.setCell ⟨g, k, none⟩ (.int .i64 mark)) := fun g' e => by
  simp only [Option.some.injEq, Addr.mk.injEq, and_true] at e
  subst e
  exact h.set hk
/-- 'p = append(p, v)' where there is room. -/
theorem wpList_roomy {P : Program} (w : World) {ops : Array Oper} {rest : List Oper} {o : Oper} {a : Act} {Q : Exit → Act → World → Prop} (hg : o.guard = none) (s x : Operand) (t : TypeId)
    (ho : o.op = Op.call { callee := Callee.builtin Builtin.append, args := #[s, x], argTypes := #[t, t] }) (e : TypeId) (i : TypeInfo) (ht : P.underlying t = some (.slice e)) (hi : P.info? e = some i) (h1 : i.size = 1)
    (g n cap : Nat) (hs : a.eval s = .slice (some ⟨g, 0, none⟩) n cap) (ab : Nat) (c : Nat) (v : Value) (hx : a.eval x = .slice (some ⟨ab, 0, none⟩) 1 c) (hv : w.cell? ⟨ab, 0, none⟩ = some v) (h1c : v.oneCell' = true)
    (hroom : n < cap) (hc : ∃ u, w.cell? ⟨g, n, none⟩ = some u) (hf : w.frozen? ⟨g, n, none⟩ = false)
    (hK : wpList P ops Q rest (a.put o.dst (.slice (some ⟨g, 0, none⟩) (n + 1) cap)) (w.setCell ⟨g, n, none⟩ v)) : wpList P ops Q (o :: rest) a w := by
  refine wpList_plain hg fun K hK' => ?_
  obtain ⟨u, hu⟩ := hc
  have hz : ∀ j : Nat, j < 1 → 0 + n * 1 + j = n := fun j hj => by omega
  have hrun := run_append_room_cells (P := P) w t o.type e i ht hi g 0 n cap ⟨ab, 0, none⟩ 1 c [v] (by simp [h1]) (fun j u' hu' => by
    match j, hu' with
    | 0, hu' =>
      simp only [List.getElem?_cons_zero, Option.some.injEq] at hu'
      subst hu'
      rw [add0]
      exact hv) (by simpa using h1c) (by omega) (fun j hj => by rw [h1, hz j (by simpa using hj), hu]; rfl) (fun j hj => by rw [h1, hz j (by simpa using hj)]; exact hf)
  have he : w.setCells g (0 + n * i.size) [v] = w.setCell ⟨g, n, none⟩ v := by rw [h1, show 0 + n * 1 = n by omega]; rfl
  rw [he] at hrun
  unfold Oper.wp
  simp [execOp, ho, resolve, invoke, builtin, hs, hx, hrun, Result.andThen]
  exact hK' _ _ hK
end Go.Proofs.Ytccoihmibkpedaa

/-!
  (*espalierlaw3.Book).Take, Held: their walks.
-/
namespace Go.Proofs.Ytccoihmibkpedaa

open Go.RowKit

abbrev T3 : TypeId := 47
theorem Try.intInfo3 : (Try.prog.info? 3).map (fun i => (i.zero, i.size, i.bytes)) = some (some (.int .i64 0), 1, 8) := by kernel_rfl
theorem Try.rowInfo3 : (Try.prog.info? TI).map (fun i => (i.zero, i.size, i.bytes)) = some (some (.slice none 0 0), 1, 24) := by kernel_rfl
theorem box1 {W : World} {b : Nat} {v : Value} {ty : TypeId} (h : W.heap[b]? = some (.cells #[v] ty (0, 0))) : W.cell? ⟨b, 0, none⟩ = some v ∧ W.frozen? ⟨b, 0, none⟩ = false := by
  simp [World.cell?, World.frozen?, h]
/-- The book: each path's places hold its mark. -/
structure B3 (D pb : Nat) (W : World) (lv : Value) (vs : List Value) (cs : List (Nat × List Value)) : Prop where
  box : W.heap[pb]? = some (.cells #[lv] T3 (0, 0))
  lists : Lists D TI 3 1 W lv vs cs
  marks : ∀ (i g n cap : Nat), vs[i]? = some (.slice (some ⟨g, 0, none⟩) n cap) → ∀ k : Nat, k < n + 200 → k < cap → W.cell? ⟨g, k, none⟩ = some (.int .i64 (-1000001 - (i : Int)))
section

variable {D pb : Nat} {W W1 : World} {lv : Value} {vs : List Value} {cs : List (Nat × List Value)}

theorem B3.keeps {S : Nat → Prop} (h : B3 D pb W lv vs cs) (hk : Keeps S W W1) (hpb : ¬ S pb) (hS : ∀ b, S b → ¬ Lists.Blk lv vs b) : B3 D pb W1 lv vs cs := by
  refine ⟨(hk.block _ (heap_lt h.box) hpb).trans h.box, h.lists.keeps hk hS, fun i g n cap hv k h1 h2 => ?_⟩
  have hb := h.lists.lo (.inr ⟨_, List.mem_of_getElem? hv, rfl⟩ : Lists.Blk lv vs g)
  exact (hk.cell (p := ⟨g, k, none⟩) hb.2 (fun e => hS g e (.inr ⟨_, List.mem_of_getElem? hv, rfl⟩))).trans (h.marks i g n cap hv k h1 h2)
theorem B3.next (h : B3 D pb W lv vs cs) (hk : Keeps (fun _ => False) W W1) : B3 D pb W1 lv vs cs := h.keeps hk (fun h => h) (fun _ h => h.elim)
end

theorem grow_box {V w3 : World} {pb : Nat} {o ob : Obj} {v : Value} (hbox : V.heap[pb]? = some ob) (hg : (V.alloc o).grownBy w3 v.ownBlock) (hne : v.ownBlock ≠ some pb) : w3.heap[pb]? = some ob := by
  rw [hg.block pb (by have := heap_lt hbox; simp; omega) (fun h => hne h.symm), Below.heap_alloc _ _ _ (heap_lt hbox)]
  exact hbox
set_option maxRecDepth 100000 in
set_option maxHeartbeats 3200000 in
theorem take3_any (D pb : Nat) (lp : Option Addr) (ll lc : Nat) (vs : List Value) (cs : List (Nat × List Value)) (vp : Option Addr) (n vc : Nat) (xs : List Value) (w : World) (h : B3 D pb w (.slice lp ll lc) vs cs) (hpb : pb < D) (hDw : D ≤ w.heap.size) (hr : w.ownsRow 0 3 1 (.slice vp n vc) n xs)
    (hat : ∀ b, (Value.slice vp n vc).ownBlock = some b → D ≤ b ∧ ¬ Lists.Blk (.slice lp ll lc) vs b) (hn : n ≤ 100000) (hL : vs.length ≤ 1000000) :
    Calls Try.prog 24 #[.pointer (some ⟨pb, 0, none⟩), .slice vp n vc] w fun e w' => (∃ u, e = .returned u) ∧ ∃ lp' ll' lc' cs', B3 D pb w' (.slice lp' ll' lc') (vs ++ [.slice vp n vc]) cs' ∧
      Keeps (fun b => b = pb ∨ Lists.Blk (.slice lp ll lc) vs b ∨ (Value.slice vp n vc).ownBlock = some b) w w' ∧ ∀ b, Lists.Blk (.slice lp' ll' lc') (vs ++ [.slice vp n vc]) b → Lists.Blk (.slice lp ll lc) vs b ∨ (Value.slice vp n vc).ownBlock = some b ∨ w.heap.size ≤ b := by
  obtain ⟨i0, hi0, hz0, hz1, hz2⟩ := info_parts Try.rowInfo3
  obtain ⟨i1, hx1, hy0, hy1, hy2⟩ := info_parts Try.intInfo3
  obtain ⟨b0, f0⟩ := box1 h.box
  have hll : ll = vs.length := row_len h.lists.row
  subst hll
  obtain ⟨_, hnc, hvc, hvp⟩ := ownsRow_caps hr
  have hpbw := heap_lt h.box
  have hrow := h.lists.row
  have HH := Lib.hid h
  have HR := Lib.hid hr
  have HAT := Lib.hid hat
  have HVP := Lib.hid hvp
  have hll1 : vs.length + 1 ≤ maxLen := by unfold maxLen; omega
  have hlne : (Value.slice lp vs.length lc).ownBlock ≠ some pb := fun e => by have := (hrow.lt _ e).1; omega
  have hbw := h.box
  have hneg : (-1000000 : Int) - ((vs.length : Int) + 1) = -1000001 - (vs.length : Int) := by omega
  have HNEG := Lib.hid hneg
  clear h hr hat hvp hneg
  go_enter Try.func24, Try.ntmps24
  go_upto_region 1 with (at_builtin; refine wpList_append_lies _ rfl _ _ _ rfl D TI i0 _ 1 24 Try.underlying43 hi0 hz0 hz1 hz2 rfl (by decide) (.slice lp vs.length lc) vs.length vs rfl (hrow.alloc _) ⟨w.heap.size, 0, none⟩ 1 1 [.slice vp n vc] rfl rfl (World.news_of_block (cs := #[.slice vp n vc]) (t := TI) (fr := (0, 0)) (heap_alloc_new w _)) (by simp [Value.oneCell']) (by omega) hll1 (by omega) (by simp; omega) (w.heap.size + 1) (by simp) ?_; intro gg cap w3 hown3 hgrow3 hat3 hlt3; have hbx := grow_box hbw hgrow3 hlne; obtain ⟨b1, f1⟩ := box1 hbx)
  obtain ⟨q1, q2, q3⟩ := push_cell (i := 0) hbw hpb hrow hgrow3 hown3
  have q1 : (w3.setCell ⟨pb, 0, none⟩ (.slice (some ⟨gg, 0, none⟩) (vs.length + 1) cap)).heap[pb]? = some (.cells #[.slice (some ⟨gg, 0, none⟩) (vs.length + 1) cap] T3 (0, 0)) := q1
  obtain ⟨W, hW⟩ : ∃ W, W = w3.setCell ⟨pb, 0, none⟩ (.slice (some ⟨gg, 0, none⟩) (vs.length + 1) cap) := ⟨_, rfl⟩
  rw [← hW] at q1 q2 q3 ⊢
  have hkq : Keeps (fun b => (Value.slice lp vs.length lc).ownBlock = some b) (w.alloc (.cells #[.slice vp n vc] TI)) w3 := (Keeps.refl _ _).grown hgrow3 (fun k hk _ => hk)
  have hL3 : Lists D TI 3 1 w3 (.slice (some ⟨gg, 0, none⟩) (vs.length + 1) cap) (vs ++ [.slice vp n vc]) (cs ++ [(n, xs)]) := HH.out.lists.push2 (by decide) ((Keeps.refl _ w).alloc _) HR.out HAT.out hown3 hkq
  have hgD : D ≤ gg := (hown3.lt gg rfl).1
  have hLW : Lists D TI 3 1 W (.slice (some ⟨gg, 0, none⟩) (vs.length + 1) cap) (vs ++ [.slice vp n vc]) (cs ++ [(n, xs)]) := by
    rw [hW]
    exact hL3.keeps ((Keeps.refl (fun b => b = pb) w3).setCell (p := ⟨pb, 0, none⟩) (fun _ => rfl) _) (fun b hb hh => by have := (hL3.lo hh).1; omega)
  have hRW : W.ownsRow 0 3 1 (.slice vp n vc) n xs := ownsRow_same HR.out (fun b hb => by
    have hb : (Value.slice vp n vc).ownBlock = some b := by simpa using hb
    have h1 := HAT.out b hb
    exact q3.block b (HR.out.lt b hb).2 (fun e => e.elim (fun e => by omega) (fun e => h1.2 (.inl e))))
  have hmk : ∀ (i g n' cap' : Nat), vs[i]? = some (.slice (some ⟨g, 0, none⟩) n' cap') → ∀ k : Nat, k < n' + 200 → k < cap' → W.cell? ⟨g, k, none⟩ = some (.int .i64 (-1000001 - (i : Int))) ∧ D ≤ g ∧ g < w.heap.size := fun i g n' cap' hv k h1 h2 => by
    have hg := HH.out.lists.lo (.inr ⟨_, List.mem_of_getElem? hv, rfl⟩ : Lists.Blk (.slice lp vs.length lc) vs g)
    refine ⟨(q3.cell (p := ⟨g, k, none⟩) hg.2 (fun e => e.elim (fun e => by have e : g = pb := e; omega) (fun e => HH.out.lists.ne_row (by decide) hv rfl e))).trans (HH.out.marks i g n' cap' hv k h1 h2), hg⟩
  have hst : ∀ g, vp = some ⟨g, 0, none⟩ → PM g vc (-1000000 - ((vs.length : Int) + 1)) 0 W := fun g hg => by
    subst hg
    exact PM.start hRW _
  have hso : 0 < vc → ∃ g, vp = some ⟨g, 0, none⟩ := fun h0 => by
    rcases hRW.2 with ⟨h1, _⟩ | ⟨g, cap', cur, h1, _⟩
    · simp only [Value.slice.injEq] at h1; omega
    · simp only [Value.slice.injEq] at h1
      exact ⟨g, h1.1⟩
  have HSO := Lib.hid hso
  clear hso
  have hsW := q3.size
  obtain ⟨b1, f1⟩ := box1 q1
  have hgg : ∀ b, (Value.slice (some ⟨gg, 0, none⟩) (vs.length + 1) cap).ownBlock = some b → (Value.slice lp vs.length lc).ownBlock = some b ∨ w.heap.size ≤ b := fun b hb => by
    have e : gg = b := by simpa [Value.ownBlock] using hb
    subst e
    rcases (by simpa using hat3 : (Value.slice lp vs.length lc).ownBlock = some gg ∨ gg = w.heap.size + 1) with h | h
    · exact .inl h
    · exact .inr (by omega)
  have HGG := Lib.hid hgg
  have HLW := Lib.hid hLW
  have HMK := Lib.hid hmk
  have HST := Lib.hid hst
  have HQ1 := Lib.hid q1
  have HQ3 := Lib.hid q3
  have hnz : (n : Int) ≤ 100000 := by omega
  have hlz : (vs.length : Int) ≤ 1000000 := by omega
  clear hgg hkq hL3 hLW hRW hmk hst q1 q2 q3 hown3 hgrow3 hat3 hlt3 hW hrow hbw hlne hll1 hbx b0 f0
  go_wp2_with fail
  go_loopg [5] n (fun m i W' => ∃ j : Nat, j + m = n ∧ i = .int .i64 j ∧ (∀ g, vp = some ⟨g, 0, none⟩ → PM g vc (-1000000 - ((vs.length : Int) + 1)) j W') ∧ Keeps (fun b => (Value.slice vp n vc).ownBlock = some b) W W')
  case atStart => exact ⟨0, by omega, rfl, HST.out, Keeps.refl _ _⟩
  case round =>
    obtain ⟨w5, hw5⟩ : ∃ X, X = wr := ⟨_, rfl⟩
    subst hw5
    obtain ⟨j, hjm, rfl, hP, hk⟩ := hrel
    have HJ := Lib.hid hjm
    have HP := Lib.hid hP
    have HK := Lib.hid hk
    have hj0 : (0 : Int) ≤ (j : Int) := Int.natCast_nonneg _
    clear hjm hP hk
    by_cases hlt : j < n
    · obtain ⟨g, rfl⟩ := HSO.out (by omega)
      have hPM := HP.out g rfl
      obtain ⟨u, a0⟩ := hPM.any.1 j (by omega)
      have g0 := hPM.any.2 j
      have HPM := Lib.hid hPM
      have hi1 : (j : Int) < (n : Int) := by omega
      clear hPM
      go_wp2_with fail
      go_roundg (gk - 1)
      case measure => have := HJ.out; omega
      case rel => exact ⟨j + 1, by have := HJ.out; omega, by go_num, HPM.out.setAll (by omega), HK.out.setCell (p := ⟨g, j, none⟩) (fun _ => rfl) _⟩
    · have hjn : j = n := by have := HJ.out; omega
      subst hjn
      go_upto_region 6 with fail
      go_cut [6] from 39 (fun v W' => (∃ n2 : Nat, v = .int .i64 n2 ∧ n2 ≤ vc ∧ n2 ≤ j + 200 ∧ j ≤ n2 ∧ (n2 = vc ∨ n2 = j + 200)) ∧ w5 = W')
      case first =>
        by_cases hm : (vc : Int) ≤ (j : Int) + 200
        · go_wp2_with fail
          all_goals
            go_meet
            case rel => exact ⟨⟨vc, by first | rfl | (simp [hm]; done) | (simp; omega), by omega, by omega, by omega, .inl rfl⟩, rfl⟩
        · go_wp2_with fail
          all_goals
            go_meet
            case rel => exact ⟨⟨j + 200, by first | go_num | (simp [hm]; done) | (simp; omega), by omega, by omega, by omega, .inr rfl⟩, rfl⟩
      case rest =>
        obtain ⟨⟨n2, rfl, hn1, hn2, hn3, hn4⟩, rfl⟩ := hcut
        go_wp2_with fail
        go_loopg [1] (n2 - j) (fun m v W' => ∃ l : Nat, v = .slice vp l vc ∧ l + m = n2 ∧ (∀ g, vp = some ⟨g, 0, none⟩ → PM g vc (-1000000 - ((vs.length : Int) + 1)) l W') ∧ Keeps (fun b => (Value.slice vp j vc).ownBlock = some b) W W')
        case atStart => exact ⟨j, rfl, by omega, HP.out, HK.out⟩
        case round =>
          obtain ⟨w7, hw7⟩ : ∃ X, X = wr := ⟨_, rfl⟩
          subst hw7
          obtain ⟨l, rfl, hlm, hP2, hk2⟩ := hrel
          have HLM := Lib.hid hlm
          have HP2 := Lib.hid hP2
          have HK2 := Lib.hid hk2
          clear hlm hP2 hk2
          by_cases hlt2 : l < n2
          · obtain ⟨g, rfl⟩ := HSO.out (by omega)
            have hPM := HP2.out g rfl
            have hPA := hPM.keeps (S := fun _ => False) ((Keeps.refl _ w7).alloc (.cells #[.int .i64 (-1000000 - ((vs.length : Int) + 1))] 3)) (fun h => h)
            have hce := hPA.any.1 l (by omega)
            have hfz := hPA.any.2 l
            have hvz : (w7.alloc (.cells #[.int .i64 (-1000000 - ((vs.length : Int) + 1))] 3)).cell? ⟨w7.heap.size, 0, none⟩ = some (.int .i64 (-1000000 - ((vs.length : Int) + 1))) := by simp
            have hlc : l < vc := by omega
            have hi1 : (l : Int) < (n2 : Int) := by omega
            have HPA := Lib.hid hPA
            clear hPM hPA
            go_wp2_with (at_builtin; refine wpList_roomy _ rfl _ _ _ rfl 3 i1 Try.underlying50 hx1 hy1 g l vc rfl w7.heap.size 1 _ rfl hvz (by simp [Value.oneCell']) hlc hce hfz ?_)
            go_roundg (gk - 1)
            case measure => have := HLM.out; omega
            case rel => exact ⟨l + 1, rfl, by have := HLM.out; omega, HPA.out.setAll hlc, (HK2.out.alloc _).setCell (p := ⟨g, l, none⟩) (fun _ => rfl) _⟩
          · have hln : l = n2 := by have := HLM.out; omega
            subst hln
            have hfin : ∃ lp' ll' lc' cs', B3 D pb w7 (.slice lp' ll' lc') (vs ++ [.slice vp j vc]) cs' ∧
                Keeps (fun b => b = pb ∨ Lists.Blk (.slice lp vs.length lc) vs b ∨ (Value.slice vp j vc).ownBlock = some b) w w7 ∧ ∀ b, Lists.Blk (.slice lp' ll' lc') (vs ++ [.slice vp j vc]) b → Lists.Blk (.slice lp vs.length lc) vs b ∨ (Value.slice vp j vc).ownBlock = some b ∨ w.heap.size ≤ b := by
              have hv1 : (vs ++ [Value.slice vp j vc])[vs.length]? = some (.slice vp j vc) := by simp
              have hc1 : (cs ++ [(j, xs)])[vs.length]? = some (j, xs) := by rw [List.getElem?_append_right (by rw [HH.out.lists.len]; exact Nat.le_refl _), HH.out.lists.len, Nat.sub_self]; rfl
              have hvn : ∀ b, (Value.slice vp j vc).ownBlock = some b → b ≠ pb := fun b hb => by have := (HAT.out b hb).1; omega
              obtain ⟨cs', hL'⟩ := HLW.out.any (by decide) hv1 hc1 HK2.out (by
                have h3 := HLW.out.rows _ _ _ hv1 hc1
                rcases h3.2 with h1 | ⟨g, cap', cur, h1, h2, h4⟩
                · exact ⟨xs, h3.1, .inl h1⟩
                · simp only [Value.slice.injEq] at h1
                  obtain ⟨rfl, _, rfl⟩ := h1
                  exact (HP2.out g rfl).row hnc (by omega) h2)
              refine ⟨_, _, _, cs', ⟨(HK2.out.block _ (heap_lt HQ1.out) (fun e => hvn _ e rfl)).trans HQ1.out, hL', fun i g n' cap' hv k h1 h2 => ?_⟩, (HQ3.out.mono (fun b hb _ => hb.imp_right (fun h => .inl (.inl h)))).trans' HK2.out (fun b hb _ => .inr (.inr hb)), fun b hb => ?_⟩
              · by_cases hi : i < vs.length
                · rw [List.getElem?_append_left hi] at hv
                  obtain ⟨h3, h4, h5⟩ := HMK.out i g n' cap' hv k h1 h2
                  exact (HK2.out.cell (p := ⟨g, k, none⟩) (World.block_lt_of_cell? _ _ h3) (fun e => (HAT.out g e).2 (.inr ⟨_, List.mem_of_getElem? hv, rfl⟩))).trans h3
                · have hi2 := (List.getElem?_eq_some_iff.1 hv).1
                  have hi3 : i = vs.length := by simp at hi2; omega
                  subst hi3
                  rw [hv1] at hv
                  simp only [Option.some.injEq, Value.slice.injEq] at hv
                  obtain ⟨rfl, rfl, rfl⟩ := hv
                  rw [← HNEG.out]
                  exact (HP2.out g rfl).cells k (by omega)
              · rcases hb with hb | ⟨u, hu, hb⟩
                · rcases HGG.out b hb with h | h
                  · exact .inl (.inl h)
                  · exact .inr (.inr h)
                · rcases List.mem_append.1 hu with hu | hu
                  · exact .inl (.inr ⟨u, hu, hb⟩)
                  · simp only [List.mem_singleton] at hu
                    subst hu
                    exact .inr (.inl hb)
            have HFIN := Lib.hid hfin
            clear hfin
            go_wp2_with fail
            refine bodyPost_end (v := .tuple #[]) (by simp [results, Try.results24, go_sem]) rfl ?_
            exact ⟨⟨_, rfl⟩, HFIN.out⟩
end Go.Proofs.Ytccoihmibkpedaa

/-!
  (*espalierlaw3.Book).Held: its walk.
-/
namespace Go.Proofs.Ytccoihmibkpedaa

open Go.RowKit

set_option maxRecDepth 100000 in
set_option maxHeartbeats 3200000 in
theorem held3_any (D pb : Nat) (lp : Option Addr) (ll lc : Nat) (vs : List Value) (cs : List (Nat × List Value)) (w : World) (h : B3 D pb w (.slice lp ll lc) vs cs) (hL : vs.length ≤ 1000000) (hsm : ∀ (i g n cap : Nat), vs[i]? = some (.slice (some ⟨g, 0, none⟩) n cap) → n ≤ 100000) :
    Calls Try.prog 27 #[.pointer (some ⟨pb, 0, none⟩)] w fun e w' => e = .returned (.bool true) ∧ Keeps (fun _ => False) w w' := by
  have hll : ll = vs.length := row_len h.lists.row
  subst hll
  obtain ⟨b0, f0⟩ := box1 h.box
  have HH := Lib.hid h
  have hlz : (vs.length : Int) ≤ 1000000 := by omega
  clear h
  go_enter Try.func27, Try.ntmps27
  go_wp2_with fail
  go_loopg [3] vs.length (fun m i W => ∃ k : Nat, k + m = vs.length ∧ i = .int .i64 k ∧ Keeps (fun _ => False) w W)
  case atStart => exact ⟨0, by omega, rfl, Keeps.refl _ _⟩
  case round =>
    obtain ⟨w5, hw5⟩ : ∃ X, X = wr := ⟨_, rfl⟩
    subst hw5
    obtain ⟨k, hkm, rfl, hk⟩ := hrel
    have HKM := Lib.hid hkm
    have HK := Lib.hid hk
    have hB := HH.out.next hk
    obtain ⟨b0, f0⟩ := box1 hB.box
    have hk0 : (0 : Int) ≤ (k : Int) := Int.natCast_nonneg _
    clear hkm hk
    by_cases hlt : k < vs.length
    · obtain ⟨v, c, hv, hc, hr⟩ := hB.lists.at_ hlt
      obtain ⟨gl, rfl⟩ := (ownsRow_caps ⟨hB.lists.row.1, hB.lists.row.2.imp id (fun ⟨g, cap, cur, a, _, z⟩ => ⟨g, cap, cur, a, Nat.zero_le _, z⟩)⟩ : _).2.2.2 (by omega)
      have d0 : w5.cell? ⟨gl, k, none⟩ = some v := by
        have := hB.lists.row.cells (g := gl) rfl k v hv
        rwa [add0] at this
      have hi1 : (k : Int) < (vs.length : Int) := by omega
      rcases hr.2 with ⟨rfl, hn⟩ | ⟨g, cap, cur, rfl, _, _, hn1, hn2, _⟩
      · clear hr hB
        go_wp2_with fail
        go_loopg [5] 0 (fun m i W => i = .int .i64 0 ∧ w5 = W)
        case atStart => exact ⟨rfl, rfl⟩
        case round =>
          obtain ⟨rfl, rfl⟩ := hrel
          go_wp2_with fail
          go_roundg (vs.length - (k + 1))
          case measure => have := HKM.out; omega
          case rel => exact ⟨k + 1, by have := HKM.out; omega, by go_num, HK.out⟩
      · have hm : ∀ i : Nat, i < c.1 + 200 → i < cap → w5.cell? ⟨g, i, none⟩ = some (.int .i64 (-1000001 - (k : Int))) := fun i h1 h2 => hB.marks k g c.1 cap hv i h1 h2
        obtain ⟨n, hn⟩ : ∃ n, c.1 = n := ⟨_, rfl⟩
        rw [hn] at hm hv d0 hn1
        have HMK := Lib.hid hm
        have hcap : cap ≤ 9223372036854775807 := by unfold maxLen at hn2; exact hn2
        have hnz : n ≤ 100000 := hsm k g n cap hv
        clear hr hB hm hn2 hc hn hv
        obtain ⟨m, hm1, hm2, hmc, hme⟩ : ∃ m : Nat, m ≤ cap ∧ m ≤ n + 200 ∧ n ≤ m ∧ (m = cap ∨ (n : Int) + 200 = (m : Int)) := by
          by_cases hx : cap ≤ n + 200
          · exact ⟨cap, Nat.le_refl _, hx, hn1, .inl rfl⟩
          · exact ⟨n + 200, by omega, Nat.le_refl _, by omega, .inr (by omega)⟩
        have hmz : (m : Int) ≤ 100200 := by omega
        clear hcap
        have hnz2 : (n : Int) ≤ 100000 := by omega
        go_upto_region 5 with fail
        go_cut [4] from 6 (fun v W => v = .slice (some ⟨g, 0, none⟩) m cap ∧ w5 = W)
        case first =>
          rcases hme with rfl | hme
          · have hx : (m : Int) ≤ (n : Int) + 200 := by omega
            go_wp2_with fail
            all_goals
              go_meet
              case rel => exact ⟨by first | rfl | (simp [hx]; done) | (simp; omega), rfl⟩
          · have hx : (m : Int) ≤ (cap : Int) := by omega
            clear hm1 hm2 hmc
            go_wp2_with fail
            all_goals
              go_meet
              case rel => exact ⟨by first | rfl | (simp [hx]; done) | (simp; omega), rfl⟩
        case rest =>
          obtain ⟨rfl, rfl⟩ := hcut
          go_wp2_with fail
          go_loopg [5] m (fun q i W => ∃ j : Nat, j + q = m ∧ i = .int .i64 j ∧ w5 = W)
          case atStart => exact ⟨0, by omega, rfl, rfl⟩
          case round =>
            obtain ⟨j, hjm, rfl, rfl⟩ := hrel
            have HJM := Lib.hid hjm
            have hj0 : (0 : Int) ≤ (j : Int) := Int.natCast_nonneg _
            clear hjm
            by_cases hjl : j < m
            · have d1 := HMK.out j (by omega) (by omega)
              have hi2 : (j : Int) < (m : Int) := by omega
              go_wp2_with fail
              go_roundg (gk - 1)
              case measure => have := HJM.out; omega
              case rel => exact ⟨j + 1, by have := HJM.out; omega, by go_num, rfl⟩
            · go_wp2_with fail
              go_roundg (vs.length - (k + 1))
              case measure => have := HKM.out; omega
              case rel => exact ⟨k + 1, by have := HKM.out; omega, by go_num, HK.out⟩
    · clear hB
      go_wp2_with fail
      go_ret
      exact ⟨rfl, HK.out⟩
end Go.Proofs.Ytccoihmibkpedaa

/-!
  espalierlaw4.Room: its walk.
-/
namespace Go.Proofs.Ytccoihmibkpedaa

open Go.RowKit

def roomF (n a : Int) : Int := if n + 70000 < a then n + 70000 else a
theorem Room_any (n a : Int) (h0 : 0 ≤ n) (h1 : n ≤ 4611686018427387904) (w : World) : Calls Try.prog 69 #[.int .i64 n, .int .i64 a] w fun e w' => e = .returned (.int .i64 (roomF n a)) ∧ w = w' := by
  by_cases h : n + 70000 < a
  · have hf : Hid (roomF n a = n + 70000) := by show roomF n a = _; rw [roomF, if_pos h]
    go_enter Try.func69, Try.ntmps69
    go_wp2_with fail
    go_ret
    exact ⟨by rw [hf.out]; rfl, rfl⟩
  · have hf : Hid (roomF n a = a) := by show roomF n a = _; rw [roomF, if_neg h]
    go_enter Try.func69, Try.ntmps69
    go_wp2_with fail
    go_ret
    exact ⟨by rw [hf.out]; rfl, rfl⟩
end Go.Proofs.Ytccoihmibkpedaa
