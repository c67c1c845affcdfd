/-
  (*espalierlaw4.Book).Keep, (*espalierlaw4.Lists).Keep: their walks.
-/
import Derived.Test.YtnphhibfiklfjaaPkS

import Derived.Test.YtnphhibfiklfjaaTwins

import Derived.Test.YtnphhibfiklfjaaQuietR

import Derived.BigQuiet

set_option linter.unusedVariables false

set_option linter.unusedSimpArgs false

namespace Go.Proofs.Ytnphhibfiklfjaa

open Go.RowKit

theorem push_cellm {V w3 : World} {pb i D e s n m gg cap : Nat} {cs : Array Value} {TT : TypeId} {v : Value} {xs news : List Value} (hbox : V.heap[pb]? = some (.cells cs TT (0, 0))) (hte : e ≠ TT) (hv : V.ownsRow D e s v n xs) (hg : V.grownBy w3 v.ownBlock)
    (hr : w3.ownsRow D e s (.slice (some ⟨gg, 0, none⟩) (n + m) cap) (n + m) (xs ++ news)) :
    (w3.setCell ⟨pb, i, none⟩ (.slice (some ⟨gg, 0, none⟩) (n + m) cap)).heap[pb]? = some (.cells (cs.setIfInBounds i (.slice (some ⟨gg, 0, none⟩) (n + m) cap)) TT (0, 0)) ∧
    (w3.setCell ⟨pb, i, none⟩ (.slice (some ⟨gg, 0, none⟩) (n + m) cap)).ownsRow D e s (.slice (some ⟨gg, 0, none⟩) (n + m) cap) (n + m) (xs ++ news) ∧
    Keeps (fun b => b = pb ∨ v.ownBlock = some b) V (w3.setCell ⟨pb, i, none⟩ (.slice (some ⟨gg, 0, none⟩) (n + m) cap)) := by
  have hne : v.ownBlock ≠ some pb := row_ty hbox hv hte
  have hk : Keeps (fun b => b = pb ∨ v.ownBlock = some b) V w3 := (Keeps.refl _ V).grown hg (fun k hk _ => .inr hk)
  have hb3 : w3.heap[pb]? = some (.cells cs TT (0, 0)) := by
    rw [hg.block pb (heap_lt hbox) (fun h => hne h.symm)]
    exact hbox
  refine ⟨heap_set hb3 _ _, ownsRow_same hr (fun b hb => ?_), hk.setCell (p := ⟨pb, i, none⟩) (fun _ => .inl rfl) _⟩
  have hb' : b = gg := by simpa [Value.ownBlock] using hb
  subst hb'
  exact Below.heap_setCell _ _ _ _ (fun e2 => row_ty hb3 hr hte (by have e2 : b = pb := e2; rw [e2]; rfl))
theorem Try.treeInfo5 : (Try.prog.info? T).map (fun i => (i.zero, i.size, i.bytes)) = some (some (.agg #[.string e0, .int .i64 0, .string e0, .slice none 0 0]), 4, 64) := by kernel_rfl
set_option maxRecDepth 100000 in
set_option maxHeartbeats 1600000 in
theorem keep4_any (D pb : Nat) (lv nv : Value) (sz : Int) (kp : Option Addr) (kl kc : Nat) (xs : List Value) (vb m : Nat) (ys : Array Value) (w : World)
    (hbox : w.heap[pb]? = some (.cells #[lv, nv, .int .i64 sz, .slice kp kl kc] T4 (0, 0))) (hr : w.ownsRow D T 4 (.slice kp kl kc) kl xs) (hDw : D ≤ w.heap.size)
    (hv : w.heap[vb]? = some (.cells ys T (0, 0))) (hm : ys.toList.length = m * 4) (hm0 : 0 < m) (hk : kl + m ≤ 1000000) (h1 : ∀ u ∈ ys.toList, u.oneCell' = true) :
    Calls Try.prog 27 #[.pointer (some ⟨pb, 0, none⟩), .slice (some ⟨vb, 0, none⟩) m m] w fun e w' => (∃ u, e = .returned u) ∧ ∃ g c, w'.heap[pb]? = some (.cells #[lv, nv, .int .i64 sz, .slice (some ⟨g, 0, none⟩) (kl + m) c] T4 (0, 0)) ∧
      w'.ownsRow D T 4 (.slice (some ⟨g, 0, none⟩) (kl + m) c) (kl + m) (xs ++ ys.toList) ∧ Keeps (fun b => b = pb ∨ (Value.slice kp kl kc).ownBlock = some b) w w' ∧ ((Value.slice kp kl kc).ownBlock = some g ∨ w.heap.size ≤ g) := by
  obtain ⟨i0, hi0, hz0, hz1, hz2⟩ := info_parts Try.treeInfo5
  obtain ⟨⟨b0, b1, b2, b3⟩, f0, f1, f2, f3⟩ := box44 hbox
  have hp0 : (Value.slice kp kl kc).ownBlock ≠ some pb := row_ty hbox hr (by decide)
  have hpw := heap_lt hbox
  go_enter Try.func27, Try.ntmps27
  go_wp2_with (at_builtin; refine wpList_append_lies _ rfl _ _ _ rfl D T i0 _ 4 64 Try.underlying22 hi0 hz0 hz1 hz2 rfl (by decide) (.slice kp kl kc) kl xs rfl hr ⟨vb, 0, none⟩ m m ys.toList rfl hm (World.news_of_block hv) h1 hm0 (by unfold maxLen; omega) (by omega) hDw w.heap.size rfl ?_; intro g1 c1 w1 hown1 hgrow1 hat1 hlt1; have hf1 : w1.frozen? ⟨pb, 3, none⟩ = false := (hgrow1.frozen_far ⟨pb, 3, none⟩ hpw (Ne.symm hp0)).trans f3; have hl1 : w1.cell? ⟨pb, 3, none⟩ = some (.slice kp kl kc) := (hgrow1.cell_far ⟨pb, 3, none⟩ hpw (Ne.symm hp0)).trans b3)
  obtain ⟨q1, q2, q3⟩ := push_cellm (i := 3) hbox (by decide) hr hgrow1 hown1
  go_end0
  exact ⟨⟨_, rfl⟩, g1, c1, q1, q2, q3, hat1.imp_right (fun h => Nat.le_of_eq h.symm)⟩

abbrev TSt : TypeId := 9
abbrev TSn : TypeId := 58
abbrev TK : TypeId := 67
theorem Try.strInfo5 : (Try.prog.info? TSn).map (fun i => (i.zero, i.size, i.bytes)) = some (some (.slice none 0 0), 1, 24) := by kernel_rfl
/-- The book of lists of names in memory. -/
structure K2 (D kb : Nat) (W : World) (lv : Value) (sz : Int) (vs : List Value) (cs : List (Nat × List Value)) : Prop where
  box : W.heap[kb]? = some (.cells #[lv, .int .i64 sz] TK (0, 0))
  lists : Lists D TSn TSt 1 W lv vs cs
def K2.Blk (kb : Nat) (lv : Value) (vs : List Value) (b : Nat) : Prop := b = kb ∨ Lists.Blk lv vs b
theorem box22 {W : World} {b : Nat} {v0 v1 : Value} {ty : TypeId} (h : W.heap[b]? = some (.cells #[v0, v1] ty (0, 0))) : (W.cell? ⟨b, 0, none⟩ = some v0 ∧ W.cell? ⟨b, 1, none⟩ = some v1) ∧ W.frozen? ⟨b, 0, none⟩ = false ∧ W.frozen? ⟨b, 1, none⟩ = false := by
  simp [World.cell?, World.frozen?, h]
section

variable {D kb : Nat} {W W1 : World} {lv : Value} {sz : Int} {vs : List Value} {cs : List (Nat × List Value)}

theorem K2.lt (h : K2 D kb W lv sz vs cs) {b : Nat} (hb : K2.Blk kb lv vs b) : b < W.heap.size := by
  rcases hb with rfl | hb
  · exact heap_lt h.box
  · exact (h.lists.lo hb).2
theorem K2.pbne (h : K2 D kb W lv sz vs cs) : ¬ Lists.Blk lv vs kb := fun e => by
  rcases e with e | ⟨v, hv, e⟩
  · exact row_ty h.box h.lists.row (by decide) e
  · obtain ⟨i, hi⟩ := List.getElem?_of_mem hv
    obtain ⟨v', c, h1, _, h3⟩ := h.lists.at_ (List.getElem?_eq_some_iff.1 hi).1
    rw [hi] at h1
    simp only [Option.some.injEq] at h1
    subst h1
    exact row_ty h.box h3 (by decide) e
theorem K2.keeps {S : Nat → Prop} (h : K2 D kb W lv sz vs cs) (hk : Keeps S W W1) (hS : ∀ b, S b → ¬ K2.Blk kb lv vs b) : K2 D kb W1 lv sz vs cs :=
  ⟨(hk.block _ (heap_lt h.box) (fun e => hS _ e (.inl rfl))).trans h.box, h.lists.keeps hk (fun b hb e => hS b hb (.inr e))⟩
theorem K2.next (h : K2 D kb W lv sz vs cs) (hk : Keeps (fun _ => False) W W1) : K2 D kb W1 lv sz vs cs := h.keeps hk (fun _ h => h.elim)
theorem K2.count (h : K2 D kb W lv sz vs cs) (sz' : Int) : K2 D kb (W.setCell ⟨kb, 1, none⟩ (.int .i64 sz')) lv sz' vs cs := by
  have hk : Keeps (fun b => b = kb) W (W.setCell ⟨kb, 1, none⟩ (.int .i64 sz')) := (Keeps.refl (fun b => b = kb) W).setCell (p := ⟨kb, 1, none⟩) (fun _ => rfl) _
  exact ⟨by rw [heap_set h.box]; rfl, h.lists.keeps hk (fun b hb e => h.pbne (by have hb : b = kb := hb; rwa [hb] at e))⟩
end

/-- What keeping a list leaves. -/
def KeepR (D kb : Nat) (lv : Value) (sz : Int) (vs : List Value) (cs : List (Nat × List Value)) (v : Value) (vl : Nat) (w w' : World) : Prop :=
  ∃ lv' sz' vs' cs', K2 D kb w' lv' sz' vs' cs' ∧ 0 ≤ sz' ∧ sz' ≤ sz + 200000 ∧ vs'.length ≤ vs.length + 1 ∧ (∀ c ∈ cs', c ∈ cs ∨ c.1 = vl) ∧ Keeps (K2.Blk kb lv vs) w w' ∧ ∀ b, K2.Blk kb lv' vs' b → K2.Blk kb lv vs b ∨ v.ownBlock = some b ∨ w.heap.size ≤ b
set_option maxRecDepth 100000 in
set_option maxHeartbeats 3200000 in
theorem lkeep_any (D kb : Nat) (lv : Value) (sz : Int) (vs : List Value) (cs : List (Nat × List Value)) (vb : Nat) (vp : Option Addr) (vl vc : Nat) (xs : List Value) (w : World) (h : K2 D kb w lv sz vs cs) (hDw : D ≤ w.heap.size)
    (hv : w.heap[vb]? = some (.cells #[.slice vp vl vc] TSn (0, 0))) (hr : w.ownsRow D TSt 1 (.slice vp vl vc) vl xs) (hat : ∀ b, (Value.slice vp vl vc).ownBlock = some b → ¬ K2.Blk kb lv vs b) (hvb : ¬ K2.Blk kb lv vs vb) (hvl : vs.length ≤ 100000) (hsz0 : 0 ≤ sz) (hsz1 : sz ≤ 281474976710656) (hvl2 : vl ≤ 100000) :
    Calls Try.prog 28 #[.pointer (some ⟨kb, 0, none⟩), .slice (some ⟨vb, 0, none⟩) 1 1] w fun e w' => (∃ u, e = .returned u) ∧ KeepR D kb lv sz vs cs (.slice vp vl vc) vl w w' := by
  obtain ⟨hxl, hvlc, hvm, hvad⟩ := ownsRow_caps (ownsRow_low hr)
  have HB := Lib.hid h
  have HR := Lib.hid hr
  have HAT := Lib.hid hat
  have HV := Lib.hid hv
  have HVB := Lib.hid hvb
  have HNN := Lib.hid hvad
  clear h hr hat hvb hxl hvad
  go_enter Try.func28, Try.ntmps28
  go_wp2_with fail
  go_loopg [4] 1 (fun m i W => ∃ j : Nat, j + m = 1 ∧ i = .int .i64 j ∧ (j = 0 → W = w) ∧ (j = 1 → KeepR D kb lv sz vs cs (.slice vp vl vc) vl w W))
  case atStart => exact ⟨0, rfl, rfl, fun _ => rfl, fun h => by omega⟩
  case round =>
    obtain ⟨w5, hw5⟩ : ∃ X, X = wr := ⟨_, rfl⟩
    subst hw5
    obtain ⟨j, hjm, rfl, hj0, hj1⟩ := hrel
    rcases (show j = 0 ∨ j = 1 by omega) with rfl | rfl
    · obtain rfl := hj0 rfl
      have hgk : gk = 1 := by omega
      subst hgk
      clear hj1 hj0 hjm
      obtain ⟨⟨b0, b1⟩, f0, f1⟩ := box22 HB.out.box
      have v0 : w5.cell? ⟨vb, 0, none⟩ = some (.slice vp vl vc) := by simp [World.cell?, HV.out]
      obtain ⟨rm, hrm⟩ : ∃ rm, roomF vl vc = rm := ⟨_, rfl⟩
      have hrm0 : 0 ≤ rm ∧ rm ≤ 170000 := by rw [← hrm, roomF]; split <;> omega
      obtain ⟨hrm0, hrm1⟩ := hrm0
      have hR : Hid (∀ W, Calls Try.prog 45 #[.int .i64 (vl : Int), .int .i64 (vc : Int)] W fun e w' => e = .returned (.int .i64 rm) ∧ w' = W) := Lib.hid fun W => (Room_any vl vc (by omega) (by omega) W).mono fun _ _ ⟨a, b⟩ => ⟨by rw [a, hrm], b.symm⟩
      clear hrm
      have hwrap : IntKind.i64.wrap (sz + rm) = sz + rm := by simp only [IntKind.wrap_i64]; omega
      go_wp2_with fail
      go_still_tail 19, (by kernel_rfl)
      still_call (hR.out _)
      repeat still_step
      refine wpStill_nil ?_
      obtain ⟨sz2, hsz2⟩ : ∃ z, sz + rm = z := ⟨_, rfl⟩
      have hz20 : 0 ≤ sz2 := by omega
      have hz21 : sz2 ≤ sz + 200000 := by omega
      obtain ⟨V, hV⟩ : ∃ V, V = (w5.setCell ⟨kb, 1, none⟩ (.int .i64 (sz + rm))).drew := ⟨_, rfl⟩
      have hkV : Keeps (fun b => b = kb) w5 V := by rw [hV]; exact ((Keeps.refl (fun b => b = kb) w5).setCell (p := ⟨kb, 1, none⟩) (fun _ => rfl) _).drew
      have hBV : K2 D kb V lv sz2 vs cs := by rw [hV, hsz2]; exact (HB.out.count sz2).next ((Keeps.refl _ _).drew)
      have hvbk : vb ≠ kb := fun e => HVB.out (.inl e)
      have hvV := (hkV.block vb (heap_lt HV.out) hvbk).trans HV.out
      have hskip : KeepR D kb lv sz vs cs (.slice vp vl vc) vl w5 V := ⟨lv, sz2, vs, cs, hBV, hz20, hz21, by omega, fun c hc => .inl hc, hkV.mono (fun b hb _ => .inl hb), fun b hb => .inl hb⟩
      have hrV : V.ownsRow D TSt 1 (.slice vp vl vc) vl xs := ownsRow_same HR.out (fun b hb => hkV.block b (HR.out.lt b (by simpa using hb)).2 (fun e => HAT.out b (by simpa using hb) (.inl e)))
      have HVV := Lib.hid hV
      have HBV := Lib.hid hBV
      have HSK := Lib.hid hskip
      have HKV := Lib.hid hkV
      have HRV := Lib.hid hrV
      change wpList _ _ _ _ _ w5.drew
      clear hV hBV hskip hsz2 hrV
      go_upto_region 4 with fail
      rw [← HVV.out]
      clear HVV hwrap b0 b1 f0 f1 v0 hR
      obtain ⟨⟨b0, b1⟩, f0, f1⟩ := box22 HBV.out.box
      have v0 : V.cell? ⟨vb, 0, none⟩ = some (.slice vp vl vc) := by simp [World.cell?, hvV]
      by_cases hc0 : 0 < vc
      · have hc1 : (0 : Int) < (vc : Int) := by omega
        by_cases hbig : sz2 < 524288
        · obtain ⟨i0, hx0, hy0, hy1, hy2⟩ := info_parts Try.strInfo5
          have hrow0 := HBV.out.lists.row
          have hDV : D ≤ V.heap.size := by have := HKV.out.size; omega
          have hp0 : lv.ownBlock ≠ some kb := fun e => HBV.out.pbne (.inl e)
          have hq0 : lv.ownBlock ≠ some vb := fun e => HVB.out (.inr (.inl e))
          have hpV := heap_lt HBV.out.box
          have hvV' := heap_lt hvV
          go_upto_region 5 with fail
          go_region_law ((refine step_append_lies _ (by rfl) _ _ _ (by rfl) D TSn i0 _ 1 24 Try.underlying65 hx0 hy0 hy1 hy2 rfl (by omega) lv vs.length vs (by rfl) (by first | exact (hrow0.alloc _).drew | exact World.ownsRow.alloc hrow0.drew _) ⟨V.heap.size, 0, none⟩ 1 1 [.slice vp vl vc] (by rfl) (by rfl) (World.news_of_block (cs := #[.slice vp vl vc]) (t := TSn) (fr := (0, 0)) (heap_alloc_new V _)) (by simp [Value.oneCell']) (by omega) (by simp only [maxLen]; omega) (by omega) (by simp; omega) (V.heap.size + 1) (by simp) ?_; intro g1 c1 w1 hown1 hgrow1 hat1 hlt1; have hl1 : w1.cell? ⟨kb, 0, none⟩ = some lv := (hgrow1.cell_far ⟨kb, 0, none⟩ (by simp; omega) (Ne.symm hp0)).trans ((World.cell?_alloc_past _ _ _ hpV).trans b0); have hf1 : w1.frozen? ⟨kb, 0, none⟩ = false := (hgrow1.frozen_far ⟨kb, 0, none⟩ (by simp; omega) (Ne.symm hp0)).trans ((World.frozen?_alloc_past _ _ _ hpV).trans f0); have hv1 : w1.cell? ⟨vb, 0, none⟩ = some (.slice vp vl vc) := (hgrow1.cell_far ⟨vb, 0, none⟩ (by simp; omega) (Ne.symm hq0)).trans ((World.cell?_alloc_past _ _ _ hvV').trans v0)))
          all_goals go_wp2_with fail
          all_goals
            obtain ⟨q1, q2, q3⟩ := push_cell2 (i := 0) HBV.out.box (by decide) HBV.out.lists.row (show (V.alloc (.cells #[.slice vp vl vc] TSn)).grownBy w1 lv.ownBlock from ⟨hgrow1.os, hgrow1.tape, hgrow1.output, hgrow1.size, hgrow1.block⟩) hown1
            have hpu := HBV.out.lists.push3 (c := (vl, xs)) (by decide) HRV.out (fun b hb => ⟨(HRV.out.lt b hb).1, fun e => HAT.out b hb (.inr e)⟩) q2 q3 (fun b hb => by
              rcases hb with rfl | hb
              · exact .inr ⟨HBV.out.pbne, fun e => HAT.out _ e (.inl rfl)⟩
              · exact .inl hb)
            have hfin : KeepR D kb lv sz vs cs (.slice vp vl vc) vl w5 (w1.setCell ⟨kb, 0, none⟩ (.slice (some ⟨g1, 0, none⟩) (vs.length + 1) c1)) := by
              refine ⟨_, sz2, _, _, ⟨q1, hpu⟩, hz20, hz21, by simp, fun c hc => ?_, (HKV.out.mono (fun b hb _ => .inl hb)).trans (q3.mono (fun b hb _ => hb.imp_right .inl)), fun b hb => ?_⟩
              · rcases List.mem_append.1 hc with hc | hc
                · exact .inl hc
                · simp only [List.mem_singleton] at hc; exact .inr (by rw [hc])
              · have hs := HKV.out.size
                rcases hb with hb | hb | ⟨v, hv, hb⟩
                · exact .inl (.inl hb)
                · have e : g1 = b := by simpa [Value.ownBlock] using hb
                  subst e
                  rcases hat1 with h1 | h1
                  · exact .inl (.inr (.inl h1))
                  · exact .inr (.inr (by omega))
                · rcases List.mem_append.1 hv with hv | hv
                  · exact .inl (.inr (.inr ⟨v, hv, hb⟩))
                  · simp only [List.mem_singleton] at hv; subst hv; exact .inr (.inl hb)
            have HFIN := Lib.hid hfin
            clear hfin hpu q1 q2 q3
            go_roundg 0
            case measure => omega
            case rel => exact ⟨1, rfl, by go_num, fun h => by omega, fun _ => HFIN.out⟩
        · go_wp2_with fail
          go_roundg 0
          case measure => omega
          case rel => exact ⟨1, rfl, by go_num, fun h => by omega, fun _ => HSK.out⟩
      · have hc1 : ¬ (0 : Int) < (vc : Int) := by omega
        go_wp2_with fail
        go_roundg 0
        case measure => omega
        case rel => exact ⟨1, rfl, by go_num, fun h => by omega, fun _ => HSK.out⟩
    · have HF := Lib.hid (hj1 rfl)
      clear hj1 hj0
      go_wp2_with fail
      go_end0
      exact ⟨⟨_, rfl⟩, HF.out⟩
end Go.Proofs.Ytnphhibfiklfjaa
