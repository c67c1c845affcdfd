/-
  tree.twin: its walk.
-/
import Derived.Test.YtnphhibfiklfjaaPkB

import Derived.Test.YtnphhibfiklfjaaPkA

import Derived.Deep.RegionHeld3

import Derived.Deep.DeepFit

import Derived.Deep.RegionLaw

import Derived.Deep.RegionLawGrows

set_option linter.unusedVariables false

set_option linter.unusedSimpArgs false

namespace Go.Proofs.Ytnphhibfiklfjaa

open Go.RowKit

theorem Try.treeInfo : (Try.prog.info? 24).map (fun i => (i.zero, i.size, i.bytes)) = some (some (.agg #[.string ByteArray.empty, .int .i64 0, .string ByteArray.empty, .slice none 0 0]), 4, 64) := by kernel_rfl
/-- The empty text. -/
abbrev e0 : ByteArray := ⟨#[]⟩
theorem box4 {W : World} {b : Nat} {v0 v1 v2 v3 : Value} {T : TypeId} (h : W.heap[b]? = some (.cells #[v0, v1, v2, v3] T (0, 0))) :
    W.cell? ⟨b, 0, none⟩ = some v0 ∧ W.cell? ⟨b, 1, none⟩ = some v1 ∧ W.cell? ⟨b, 2, none⟩ = some v2 ∧ W.cell? ⟨b, 3, none⟩ = some v3 ∧ W.frozen? ⟨b, 0, none⟩ = false ∧ W.frozen? ⟨b, 1, none⟩ = false ∧ W.frozen? ⟨b, 2, none⟩ = false ∧ W.frozen? ⟨b, 3, none⟩ = false := by
  simp [World.cell?, World.frozen?, h]
def TwinR (k : ByteArray) (n : Int) (t : ByteArray) (c : Fo) (w : World) (e : Ending) (w' : World) : Prop :=
  ∃ cp cl cc bs, e = .returned (tv k n t cp cl cc) ∧ Own w' c cp cl cc bs ∧ News w' w.heap.size bs ∧ Keeps (fun _ => False) w w'

abbrev T : TypeId := 24
theorem Keeps.four (w : World) (B : Nat) (v0 v1 v2 v3 : Value) : Keeps (fun b => b = B) w ((((w.setCell ⟨B, 0, none⟩ v0).setCell ⟨B, 1, none⟩ v1).setCell ⟨B, 2, none⟩ v2).setCell ⟨B, 3, none⟩ v3) := by
  have h : ∀ (W : World) (o : Nat) (v : Value), Keeps (fun b => b = B) w W → Keeps (fun b => b = B) w (W.setCell ⟨B, o, none⟩ v) := fun W o v h => h.setCell (p := ⟨B, o, none⟩) (fun _ => rfl) v
  exact h _ _ _ (h _ _ _ (h _ _ _ (h _ _ _ (Keeps.refl _ w))))
theorem Fo.len_nodes (f : Fo) : f.len ≤ f.nodes := by
  induction f with
  | nil => exact Nat.le_refl _
  | cons k n t c r _ ih => simp only [Fo.len, Fo.nodes]; omega
/-- Half way: j kids are copied. U: the result's block; U + 1: u's. -/
structure TwinI (w W : World) (k : ByteArray) (n : Int) (t : ByteArray) (c : Fo) (j : Nat) (vp : Option Addr) (vl vc : Nat) (xs : List Value) (bs : List Nat) : Prop where
  u : W.heap[w.heap.size + 1]? = some (.cells #[.string k, .int .i64 n, .string t, .slice vp vl vc] T (0, 0))
  res : W.heap[w.heap.size]? = some (.cells #[.string e0, .int .i64 0, .string e0, .slice none 0 0] T (0, 0))
  row : W.ownsRow 0 T 4 (.slice vp vl vc) j xs
  rep : RowRep W (c.take j) xs bs
  news : News W (w.heap.size + 2) (sb vp vl vc ++ bs)
  keeps : Keeps (fun _ => False) w W
theorem heap_lt {w : World} {b : Nat} {o : Obj} (h : w.heap[b]? = some o) : b < w.heap.size := (Array.getElem?_eq_some_iff.1 h).1
theorem heap_set {w : World} {b : Nat} {cs : Array Value} {T : TypeId} (h : w.heap[b]? = some (.cells cs T (0, 0))) (o : Nat) (v : Value) : (w.setCell ⟨b, o, none⟩ v).heap[b]? = some (.cells (cs.setIfInBounds o v) T (0, 0)) := by
  simp [World.setCell, Array.getElem?_modify, h]
theorem twin_step {w wr W2 w3 : World} {k : ByteArray} {n : Int} {t : ByteArray} {c : Fo} {j : Nat} {vp : Option Addr} {vl vc : Nat} {xs : List Value} {bs : List Nat} (hI : TwinI w wr k n t c j vp vl vc xs bs)
    {k1 : ByteArray} {n1 : Int} {t1 : ByteArray} {s1 r1 : Fo} {cp1 : Option Addr} {cl1 cc1 : Nat} {bs1 : List Nat} (hd : c.drop j = .cons k1 n1 t1 s1 r1) (ht1 : szok k1 t1)
    (ho : Own W2 s1 cp1 cl1 cc1 bs1) (hn : News W2 wr.heap.size bs1) (hk : Keeps (fun _ => False) wr W2) {gg cap : Nat} {blk : Array Value}
    (hrow : w3.ownsRow 0 T 4 (.slice (some ⟨gg, 0, none⟩) (j + 1) cap) (j + 1) (xs ++ [.string k1, .int .i64 n1, .string t1, .slice cp1 cl1 cc1]))
    (hg : (W2.alloc (.cells blk T)).grownBy w3 (Value.slice vp vl vc).ownBlock) (hat : (Value.slice vp vl vc).ownBlock = some gg ∨ gg = W2.heap.size + 1) (hlt : gg < w3.heap.size) :
    TwinI w (w3.setCell ⟨w.heap.size + 1, 3, none⟩ (.slice (some ⟨gg, 0, none⟩) (j + 1) cap)) k n t c (j + 1) (some ⟨gg, 0, none⟩) (j + 1) cap (xs ++ [.string k1, .int .i64 n1, .string t1, .slice cp1 cl1 cc1]) (bs ++ bs1) := by
  have hU := heap_lt hI.u
  have h2 := hk.size
  have hlo : ∀ x, x ∈ sb vp vl vc → w.heap.size + 2 ≤ x := fun x hx => hI.news.lo x (List.mem_append.2 (.inl hx))
  have hsb : ∀ x, (Value.slice vp vl vc).ownBlock = some x → x ∈ sb vp vl vc := fun x hx => by simp [sb, hx]
  have hnd := List.nodup_append.1 hI.news.nodup
  have hgg : w.heap.size + 2 ≤ gg := by
    rcases hat with h | h
    · exact hlo _ (hsb _ h)
    · omega
  -- what is not the row's own block is as it was
  have hold : ∀ x, x < W2.heap.size → x ∉ sb vp vl vc → x ≠ w.heap.size + 1 → (w3.setCell ⟨w.heap.size + 1, 3, none⟩ (.slice (some ⟨gg, 0, none⟩) (j + 1) cap)).heap[x]? = W2.heap[x]? := fun x hx hn1 hn2 => by
    rw [Below.heap_setCell _ _ _ _ hn2, hg.block x (by simp; omega) (fun e => hn1 (hsb _ e.symm)), Below.heap_alloc _ _ _ hx]
  have hsz3 : W2.heap.size + 1 ≤ w3.heap.size := by have := hg.size; simpa using this
  refine ⟨?_, ?_, ?_, ?_, ?_, ?_⟩
  · have h1 : w3.heap[w.heap.size + 1]? = some (.cells #[.string k, .int .i64 n, .string t, .slice vp vl vc] T (0, 0)) := by
      rw [hg.block _ (by simp; omega) (fun e => by have := hlo _ (hsb _ e.symm); omega), Below.heap_alloc _ _ _ (by omega), hk.block _ hU (fun h => h)]
      exact hI.u
    rw [heap_set h1]
    rfl
  · rw [hold _ (by omega) (fun h => by have := hlo _ h; omega) (by omega), hk.block _ (heap_lt hI.res) (fun h => h)]
    exact hI.res
  · exact ownsRow_same hrow (fun b hb => by
      simp only [Value.ownBlock, Option.toList_some, List.mem_singleton] at hb
      exact Below.heap_setCell _ _ _ _ (by show b ≠ w.heap.size + 1; omega))
  · rw [Fo.take_step hd]
    have hr2 : RowRep W2 (c.take j) xs bs := hI.rep.keeps hk (fun b hb => ⟨hI.news.hi b (List.mem_append.2 (.inr hb)), fun h => h⟩)
    refine RowRep.snoc ht1 (ho.same fun b hb => ?_) (hr2.same fun b hb => ?_)
    · have h1 := hn.lo b hb
      refine hold b (hn.hi b hb) (fun h => ?_) (by omega)
      have := hI.news.hi b (List.mem_append.2 (.inl h))
      omega
    · have h1 := hI.news.hi b (List.mem_append.2 (.inr hb))
      have h3 := hI.news.lo b (List.mem_append.2 (.inr hb))
      exact hold b (by omega) (fun h => hnd.2.2 b h b hb rfl) (by omega)
  · have hss : (w3.setCell ⟨w.heap.size + 1, 3, none⟩ (.slice (some ⟨gg, 0, none⟩) (j + 1) cap)).heap.size = w3.heap.size := by simp [World.setCell]
    have hmem : ∀ x, x ∈ bs ++ bs1 → w.heap.size + 2 ≤ x ∧ x < W2.heap.size ∧ x ∉ sb vp vl vc := fun x hx => by
      rcases List.mem_append.1 hx with h | h
      · have h1 := hI.news.hi x (List.mem_append.2 (.inr h))
        exact ⟨hI.news.lo x (List.mem_append.2 (.inr h)), by omega, fun h' => hnd.2.2 x h' x h rfl⟩
      · have h1 := hn.lo x h
        exact ⟨by omega, hn.hi x h, fun h' => by have := hI.news.hi x (List.mem_append.2 (.inl h')); omega⟩
    have hsb2 : sb (some ⟨gg, 0, none⟩) (j + 1) cap = [gg] := rfl
    rw [hsb2]
    refine ⟨fun x hx => ?_, fun x hx => ?_, ?_⟩
    · rcases List.mem_append.1 hx with h | h
      · simp only [List.mem_singleton] at h; omega
      · exact (hmem x h).1
    · rw [hss]
      rcases List.mem_append.1 hx with h | h
      · simp only [List.mem_singleton] at h; omega
      · have := (hmem x h).2.1; omega
    · refine List.nodup_append.2 ⟨by simp, List.nodup_append.2 ⟨hnd.2.1, hn.nodup, fun a ha b hb e => ?_⟩, fun a ha b hb e => ?_⟩
      · have h1 := hI.news.hi a (List.mem_append.2 (.inr ha))
        have h3 := hn.lo b hb
        omega
      · simp only [List.mem_singleton] at ha
        have h1 := hmem b hb
        rcases hat with h | h
        · exact h1.2.2 (by rw [← e, ha]; exact hsb _ h)
        · omega
  · exact (((((hI.keeps.trans hk).alloc _).grown hg (fun x hx hl => by have := hlo _ (hsb _ hx); omega)).setCell (p := ⟨w.heap.size + 1, 3, none⟩) (fun h => by have : w.heap.size + 1 < w.heap.size := h; omega) _))

set_option maxRecDepth 100000 in
set_option maxHeartbeats 1600000 in
theorem twin_any : ∀ (N : Nat), N ≤ 100000 → ∀ (k : ByteArray) (n : Int) (t : ByteArray) (c : Fo) (A : Nat → Prop) (b o : Nat) (cp : Option Addr) (cl cc : Nat) (w : World), c.nodes < N → b < w.heap.size → NodeAt w A b o k n t c cp cl cc →
   Calls Try.prog 37 #[.pointer (some ⟨b, o, none⟩)] w (TwinR k n t c w) := by
  intro N
  induction N with
  | zero => intros; omega
  | succ N ih =>
    intro hN1 k n t c A b o cp cl cc w hN hb hn
    obtain ⟨i0, hi0, hz0, hz1, hz2⟩ := info_parts Try.treeInfo
    have c0 := hn.c0
    have c1 := hn.c1
    have c2 := hn.c2
    have c3 := hn.c3
    have hlc := hn.lc
    have hcm := hn.cm
    go_enter Try.func37, Try.ntmps37
    go_wp2_with fail
    have hcl : cl ≤ 100000 := by have h1 := Fo.len_nodes c; rw [hn.kids.len] at h1; omega
    go_loopg [14] cl (fun m i W => ∃ j : Nat, j + m = cl ∧ i = .int .i64 j ∧ ∃ vp vl vc xs bs, TwinI w W k n t c j vp vl vc xs bs)
    case atStart =>
      refine ⟨0, by omega, rfl, none, 0, 0, [], [], ?_, ?_, World.ownsRow_nil _ _ _ _, RowRep.nil _, News.nil _ _, ((Keeps.refl _ w).alloc _).alloc _⟩
      · rw [show w.heap.size + 1 = (w.alloc (.cells #[.string e0, .int .i64 0, .string e0, .slice none 0 0] T)).heap.size by simp]
        exact heap_alloc_new _ _
      · rw [Below.heap_alloc _ _ _ (by simp)]
        exact heap_alloc_new _ _
    case round =>
      obtain ⟨j, hjm, rfl, vp, vl, vc, xs, bs, hI⟩ := hrel
      have HJ := Lib.hid hjm
      clear hjm c0 c1 c2 c3
      have hnr := hn.keeps hI.keeps (S := fun _ => False) (fun _ _ h => h) hb (fun h => h)
      have k3 := hnr.c3
      have hsz := hI.keeps.size
      have hu3 : wr.cell? ⟨w.heap.size + 1, 3, none⟩ = some (.slice vp vl vc) := by simp [World.cell?, hI.u]
      have hfu : wr.frozen? ⟨w.heap.size + 1, 3, none⟩ = false := by simp [World.frozen?, hI.u]
      have hbr : b < wr.heap.size := by omega
      have hur := heap_lt hI.u
      by_cases hlt : j < cl
      · obtain ⟨kb, ko, rfl, _, hkb⟩ := hnr.kids.hasAddr (by omega)
        obtain ⟨k1, n1, t1, s1, r1, hdr⟩ := Fo.drop_lt j c (by rw [hn.kids.len]; exact hlt)
        obtain ⟨cp1, cl1, cc1, hn1⟩ := hnr.kids.at_ j hdr hlt
        have hcN : s1.nodes < N := by
          have h1 := Fo.nodes_drop j c
          rw [hdr] at h1
          simp only [Fo.nodes] at h1
          omega
        have ht1 := hn1.size
        have HD := Lib.hid hdr
        clear hdr
        have hih : ∀ W1, Keeps (fun _ => False) wr W1 → Calls Try.prog 37 #[.pointer (some ⟨kb, ko + j * 4, none⟩)] W1 fun e W2 => ∃ cp1 cl1 cc1 bs1, e = .returned (tv k1 n1 t1 cp1 cl1 cc1) ∧ Hid (Own W2 s1 cp1 cl1 cc1 bs1 ∧ News W2 wr.heap.size bs1 ∧ Keeps (fun _ => False) wr W2) ∧ W2.ownsRow 0 T 4 (.slice vp vl vc) j xs ∧
            W2.cell? ⟨w.heap.size + 1, 3, none⟩ = some (.slice vp vl vc) ∧ W2.cell? ⟨b, o + 3, none⟩ = some (.slice (some ⟨kb, ko, none⟩) cl cc) ∧ W2.frozen? ⟨w.heap.size + 1, 3, none⟩ = false ∧ w.heap.size + 1 < W2.heap.size := by
          intro W1 hk1
          refine (ih (by omega) k1 n1 t1 s1 A kb (ko + j * 4) cp1 cl1 cc1 W1 hcN (Nat.lt_of_lt_of_le hkb hk1.size) (hn1.keeps hk1 (fun _ _ h => h) hkb (fun h => h))).mono ?_
          rintro e W2 ⟨cp2, cl2, cc2, bs1, rfl, ho1, hnw, hk2⟩
          have hk := hk1.trans hk2
          refine ⟨cp2, cl2, cc2, bs1, rfl, ⟨ho1, hnw.mono hk1.size, hk⟩, ?_, ?_, ?_, ?_, ?_⟩
          · exact ownsRow_same hI.row (fun x hx => hk.block x (hI.news.hi x (List.mem_append.2 (.inl hx))) (fun h => h))
          · exact (hk.cell (p := ⟨w.heap.size + 1, 3, none⟩) hur (fun h => h)).trans hu3
          · exact (hk.cell (p := ⟨b, o + 3, none⟩) hbr (fun h => h)).trans k3
          · exact (hk.frozen (p := ⟨w.heap.size + 1, 3, none⟩) hur (fun h => h)).trans hfu
          · have := hk.size; omega
        have hkd : Keeps (fun _ => False) wr wr.drew := (Keeps.refl _ wr).drew
        have hi0' : (0 : Int) ≤ (j : Int) := Int.natCast_nonneg _
        have hi1 : (j : Int) < (cl : Int) := by omega
        have hvb : (Value.slice vp vl vc).ownBlock ≠ some (w.heap.size + 1) := fun h => by
          have := hI.news.lo (w.heap.size + 1) (List.mem_append.2 (.inl (by simp [sb, h])))
          omega
        have hvb2 : (Value.slice vp vl vc).ownBlock ≠ some b := fun h => by
          have := hI.news.lo b (List.mem_append.2 (.inl (by simp [sb, h])))
          omega
        have hj : j + 1 ≤ maxLen := by simp only [maxLen]; omega
        go_wp2_with fail
        go_region_law (first
            | ((go_simp; go_at_call 37; refine (hih _ hkd).mono ?_; rintro e W2 ⟨cp2, cl2, cc2, bs1, rfl, hH, hown2, hU2, hb2, hf2, hs2⟩))
            | ((refine step_append_lies _ (by rfl) _ _ _ (by rfl) 0 T i0 _ 4 64 Try.underlying22 hi0 hz0 hz1 hz2 rfl (by omega) (.slice vp vl vc) j xs (by rfl) (hown2.alloc _) ⟨W2.heap.size, 0, none⟩ 1 1 [.string k1, .int .i64 n1, .string t1, .slice cp2 cl2 cc2] (by rfl) (by rfl) (World.news_of_block (cs := #[.string k1, .int .i64 n1, .string t1, .slice cp2 cl2 cc2]) (t := T) (fr := (0, 0)) (heap_alloc_new W2 _)) (by simp [Value.oneCell']) (by omega) hj (by omega) (by omega) (W2.heap.size + 1) (by simp) ?_; intro gg cap w3 hown3 hgrow3 hat3 hlt3; have hc3 : w3.cell? ⟨w.heap.size + 1, 3, none⟩ = some (.slice vp vl vc) := (hgrow3.cell_far ⟨w.heap.size + 1, 3, none⟩ (by simp; omega) (Ne.symm hvb)).trans ((World.cell?_alloc_past _ _ _ hs2).trans hU2); have hf3 : w3.frozen? ⟨w.heap.size + 1, 3, none⟩ = false := (hgrow3.frozen_far ⟨w.heap.size + 1, 3, none⟩ (by simp; omega) (Ne.symm hvb)).trans ((World.frozen?_alloc_past _ _ _ hs2).trans hf2))))
        all_goals go_wp2_with fail
        all_goals
          go_roundg (gk - 1)
          case measure => have := HJ.out; omega
          case rel => exact ⟨j + 1, by have := HJ.out; omega, by go_num, _, _, _, _, _, twin_step hI HD.out ht1 hH.1 hH.2.1 hH.2.2 hown3 hgrow3 hat3 hlt3⟩
      · have u0 : wr.cell? ⟨w.heap.size + 1, 0, none⟩ = some (.string k) := by simp [World.cell?, hI.u]
        have u1 : wr.cell? ⟨w.heap.size + 1, 1, none⟩ = some (.int .i64 n) := by simp [World.cell?, hI.u]
        have u2 : wr.cell? ⟨w.heap.size + 1, 2, none⟩ = some (.string t) := by simp [World.cell?, hI.u]
        have r0 : wr.cell? ⟨w.heap.size, 0, none⟩ = some (.string e0) := by simp [World.cell?, hI.res]
        have r1 : wr.cell? ⟨w.heap.size, 1, none⟩ = some (.int .i64 0) := by simp [World.cell?, hI.res]
        have r2 : wr.cell? ⟨w.heap.size, 2, none⟩ = some (.string e0) := by simp [World.cell?, hI.res]
        have r3 : wr.cell? ⟨w.heap.size, 3, none⟩ = some (.slice none 0 0) := by simp [World.cell?, hI.res]
        have f0 : ∀ i, wr.frozen? ⟨w.heap.size, i, none⟩ = false := fun i => by simp [World.frozen?, hI.res]
        have f00 := f0 0
        have f01 := f0 1
        have f02 := f0 2
        have f03 := f0 3
        clear f0
        have htake : c.take j = c := Fo.take_len (by rw [hn.kids.len]; omega)
        have hlen : c.len = j := by have := hn.kids.len; have := HJ.out; omega
        have HT := Lib.hid htake
        have HL := Lib.hid hlen
        clear htake hlen
        go_wp2_with fail
        refine bodyPost_ret (v := tv k n t vp vl vc) (by simp [results, Try.results37, go_sem, r0, r1, r2, r3]) rfl ?_
        have hkeep : Keeps (fun b => b = w.heap.size) wr ((((wr.setCell ⟨w.heap.size, 0, none⟩ (.string k)).setCell ⟨w.heap.size, 1, none⟩ (.int .i64 n)).setCell ⟨w.heap.size, 2, none⟩ (.string t)).setCell ⟨w.heap.size, 3, none⟩ (.slice vp vl vc)) :=
          Keeps.four _ _ _ _ _ _
        have hrow : wr.ownsRow 0 T 4 (.slice vp vl vc) c.len xs := by rw [HL.out]; exact hI.row
        have hown : Own wr c vp vl vc (sb vp vl vc ++ bs) := ⟨xs, bs, hrow, by have := hI.rep; rwa [HT.out] at this, rfl⟩
        exact ⟨vp, vl, vc, sb vp vl vc ++ bs, rfl, hown.keeps hkeep (fun x hx => ⟨hI.news.hi x hx, fun e => by have := hI.news.lo x hx; omega⟩), (hI.news.keeps hkeep).mono (by omega), hI.keeps.trans' hkeep (fun x hx hl => by omega)⟩
end Go.Proofs.Ytnphhibfiklfjaa
