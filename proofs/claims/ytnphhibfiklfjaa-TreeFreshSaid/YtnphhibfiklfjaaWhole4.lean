/-
  (*espalierlaw4.Book).Whole: its walk.
-/
import Derived.Test.YtnphhibfiklfjaaPkS

import Derived.Test.YtnphhibfiklfjaaQuietR

import Derived.BigQuiet

set_option linter.unusedVariables false

set_option linter.unusedSimpArgs false

namespace Go.Proofs.Ytnphhibfiklfjaa

open Go.RowKit

theorem roomF_le4 (n a : Int) : roomF n a ≤ n + 70000 ∧ roomF n a ≤ a := by unfold roomF; split <;> omega
theorem Try.treeInfo4 : (Try.prog.info? T).map (fun i => (i.zero, i.size, i.bytes)) = some (some (.agg #[.string e0, .int .i64 0, .string e0, .slice none 0 0]), 4, 64) := by kernel_rfl
set_option maxRecDepth 100000 in
set_option maxHeartbeats 12800000 in
theorem whole4_any (D pb : Nat) (lv nv : Value) (sz : Int) (vs : List Value) (cs : List (Nat × List Value)) (ns : List Nat) (f : Fo) (tp : Option Addr) (tl tc : Nat) (xs : List Value) (bs : List Nat) (w : World) (h : B4 D pb w lv nv sz (.slice tp tl tc) vs cs ns) (hDw : D ≤ w.heap.size)
    (ht : w.ownsRow 0 T 4 (.slice tp tl tc) tl xs) (hf : f.len = tl) (hrep : RowRep w f xs bs) (hnd : bs.Nodup) (hbs : ∀ b ∈ bs, D ≤ b ∧ ¬ B4.Blk pb lv nv vs b) (hfn : f.nodes ≤ 199999) (hvl : vs.length + bs.length ≤ 4000000) (hsz0 : 0 ≤ sz) (hsz1 : sz ≤ 281474976710656) (hsm : ∀ c ∈ cs, c.1 ≤ 200000) :
    Calls Try.prog 30 #[.pointer (some ⟨pb, 0, none⟩)] w fun e w' => e = .returned (.bool true) ∧ Keeps (fun b => B4.Blk pb lv nv vs b ∨ b ∈ bs) w w' := by
  have hT := take4_any D pb lv nv (.slice tp tl tc) sz vs cs ns f tp tl tc xs bs w h hDw ht hf hrep hnd hbs hfn hvl hsz0 hsz1 hsm
  obtain ⟨⟨b0, b1, b2, b3⟩, f0, f1, f2, f3⟩ := box44 h.box
  clear h hbs ht hf hrep hnd hsm
  go_enter Try.func30, Try.ntmps30
  go_wp2_with fail
  refine hT.mono ?_
  clear hT b0 b1 b2 b3 f0 f1 f2 f3
  rintro e W ⟨⟨u, rfl⟩, lv', nv', sz', vs', cs', ns', hB, hz0, hz1, hvl', hsm', hkT, hfr⟩
  have hDW : D ≤ W.heap.size := by have := hkT.size; omega
  have hvlen : vs'.length ≤ 4000000 := by omega
  obtain ⟨N, hN⟩ : ∃ N, vs'.length = N := ⟨_, rfl⟩
  rw [hN] at hvlen
  have hst : ∃ vs2 cs2, B4 D pb W lv' nv' sz' (.slice tp tl tc) vs2 cs2 ns' ∧ vs2.length = N ∧ (∀ (i : Nat) (c : Nat × List Value), 0 ≤ i → cs2[i]? = some c → c.1 ≤ 200000) ∧ Fr W lv' vs' vs2 W := ⟨vs', cs', hB, hN, fun i c _ hc => hsm' c (List.mem_of_getElem? hc), Keeps.refl _ _, fun b hb => .inl hb⟩
  have hlvs : ∃ lp lc, lv' = .slice lp N lc := by
    obtain ⟨lp, lc, h1, _⟩ := ownsRow_slice hB.lists.row
    exact ⟨lp, lc, by rw [h1, hN]⟩
  obtain ⟨lp, lc, rfl⟩ := hlvs
  have HST := Lib.hid hst
  have HKT := Lib.hid hkT
  have HFR := Lib.hid hfr
  have hNz : (N : Int) ≤ 4000000 := by omega
  have hpbW := heap_lt hB.box
  obtain ⟨⟨b0, b1, b2, b3⟩, f0, f1, f2, f3⟩ := box44 hB.box
  clear hB hkT hst hN hfr hsm' hz0 hz1 hvl'
  go_wp2_with fail
  go_loopg [3] N (fun m i V => ∃ j : Nat, j + m = N ∧ i = .int .i64 j ∧ (∃ vs2 cs2, B4 D pb V (.slice lp N lc) nv' sz' (.slice tp tl tc) vs2 cs2 ns' ∧ vs2.length = N ∧ (∀ (i : Nat) (c : Nat × List Value), j ≤ i → cs2[i]? = some c → c.1 ≤ 200000) ∧ Fr W (.slice lp N lc) vs' vs2 V))
  case atStart => exact ⟨0, by omega, rfl, HST.out⟩
  case round =>
    obtain ⟨V, hV⟩ : ∃ X, X = wr := ⟨_, rfl⟩
    subst hV
    obtain ⟨j, hjm, rfl, vs2, cs2, hB, hl2, hs2, hkV⟩ := hrel
    have HJ := Lib.hid hjm
    have HL2 := Lib.hid hl2
    have HS2 := Lib.hid hs2
    have HKV := Lib.hid hkV
    have HB := Lib.hid hB
    have hj0 : (0 : Int) ≤ (j : Int) := Int.natCast_nonneg _
    clear hjm hl2 hs2 hkV b0 b1 b2 b3 f0 f1 f2 f3
    obtain ⟨⟨b0, b1, b2, b3⟩, f0, f1, f2, f3⟩ := box44 hB.box
    by_cases hlt : j < N
    · obtain ⟨v, c, hv, hc, hrow⟩ := hB.lists.at_ (i := j) (by rw [HL2.out]; exact hlt)
      obtain ⟨gl, rfl⟩ : ∃ gl, lp = some ⟨gl, 0, none⟩ := by
        obtain ⟨pp, cap', he, _, _, h3⟩ := ownsRow_slice hB.lists.row
        simp only [Value.slice.injEq] at he
        obtain ⟨rfl, _, _⟩ := he
        exact h3 (by rw [HL2.out]; omega)
      obtain ⟨pp, cap, rfl, hcap, hcm, hpp⟩ := ownsRow_slice hrow
      have hc1 : c.1 ≤ 200000 := HS2.out j c (Nat.le_refl _) hc
      have hmx : cap ≤ 9223372036854775807 := by unfold maxLen at hcm; omega
      have d0 : V.cell? ⟨gl, j, none⟩ = some (.slice pp c.1 cap) := by
        have := hB.lists.row.cells (g := gl) rfl j _ hv
        rwa [add0] at this
      obtain ⟨rn, hrm⟩ : ∃ rn, roomF c.1 cap = rn := ⟨_, rfl⟩
      have hR : Hid (∀ W, Calls Try.prog 45 #[.int .i64 (c.1 : Int), .int .i64 (cap : Int)] W fun e w' => e = .returned (.int .i64 rn) ∧ w' = W) := Lib.hid fun W => (Room_any c.1 cap (by omega) (by omega) W).mono fun _ _ ⟨a, b⟩ => ⟨by rw [a, hrm], b.symm⟩
      have hrn1 : rn ≤ 270000 := by have := roomF_le4 c.1 cap; omega
      have hj1 : (j : Int) < (N : Int) := by omega
      have HC := Lib.hid hc
      clear hv hc hrow hcm hpp hrm hB
      go_wp2_with fail
      go_still_tail 16, (by kernel_rfl)
      change wpList _ _ _ _ _ V.drew
      obtain ⟨V1, hV1⟩ : ∃ V1, V1 = V.drew := ⟨_, rfl⟩
      have hk1 : Keeps (fun _ => False) V V1 := by rw [hV1]; exact (Keeps.refl _ V).drew
      have HB1 := Lib.hid (HB.out.next hk1)
      rw [← hV1]
      have HK1 := Lib.hid (HKV.out.next hk1)
      clear hV1 hk1 b0 b1 b2 b3 f0 f1 f2 f3 d0
      go_wp2_with fail
      refine (hR.out _).mono ?_
      rintro e V1 ⟨rfl, rfl⟩
      go_wp2_with fail
      go_loopg [] (rn.toNat - c.1) (fun m X => ∃ vs3 cs3 c3, B4 D pb X (.slice (some ⟨gl, 0, none⟩) N lc) nv' sz' (.slice tp tl tc) vs3 cs3 ns' ∧ vs3.length = N ∧ (∀ (i : Nat) (c : Nat × List Value), j + 1 ≤ i → cs3[i]? = some c → c.1 ≤ 200000) ∧ cs3[j]? = some c3 ∧ m = rn.toNat - c3.1 ∧ c3.1 ≤ 300000 ∧ Fr W (.slice (some ⟨gl, 0, none⟩) N lc) vs' vs3 X)
      case atStart => exact ⟨vs2, cs2, c, HB1.out, HL2.out, fun i c h => HS2.out i c (by omega), HC.out, rfl, by omega, HK1.out⟩
      case round =>
        obtain ⟨X, hX⟩ : ∃ Y, Y = wr := ⟨_, rfl⟩
        subst hX
        obtain ⟨vs3, cs3, c3, hB3, hl3, hs3, hc3, hm3, hc3b, hk3⟩ := hrel
        have HL3 := Lib.hid hl3
        have HS3 := Lib.hid hs3
        have HC3 := Lib.hid hc3
        have HM3 := Lib.hid hm3
        have HK3 := Lib.hid hk3
        have HB3 := Lib.hid hB3
        obtain ⟨⟨b0, b1, b2, b3⟩, f0, f1, f2, f3⟩ := box44 hB3.box
        obtain ⟨v3, c', hv3, hc', hrow3⟩ := hB3.lists.at_ (i := j) (by rw [hl3]; exact hlt)
        obtain rfl : c3 = c' := by rw [hc3] at hc'; simpa using hc'
        obtain ⟨pp3, cap3, rfl, hcap3, hcm3, hpp3⟩ := ownsRow_slice hrow3
        have d0 : X.cell? ⟨gl, j, none⟩ = some (.slice pp3 c3.1 cap3) := by
          have := hB3.lists.row.cells (g := gl) rfl j _ hv3
          rwa [add0] at this
        have HV3 := Lib.hid hv3
        have HR3 := Lib.hid hrow3
        have hmx3 : cap3 ≤ 9223372036854775807 := by unfold maxLen at hcm3; omega
        clear hl3 hs3 hc3 hm3 hk3 hv3 hc' hrow3 hcm3 hpp3 hB3
        by_cases hlt2 : (c3.1 : Int) < rn
        · go_upto_region 7 with fail
          go_cut [51] from 40 to 84 (fun v Y => (∃ b, v = .bool b) ∧ Keeps (fun _ => False) X Y)
          case first =>
            have hk0 : Keeps (fun _ => False) X X := Keeps.refl _ _
            go_region
            all_goals
              go_wp2_with fail
              go_meet
              case rel => exact ⟨⟨_, rfl⟩, by repeat' (first | with_reducible exact hk0 | with_reducible refine Keeps.drew ?_ | with_reducible refine Keeps.alloc ?_ _ | with_reducible refine Keeps.setCell ?_ ?_ _ | (intro hh; dsimp only at hh; omega))⟩
          case rest =>
            obtain ⟨Y, hY⟩ : ∃ Z, Z = wc := ⟨_, rfl⟩
            subst hY
            obtain ⟨⟨bb, rfl⟩, hkY⟩ := hcut
            have hBY := HB3.out.next hkY
            have hrY : Y.ownsRow D T 4 (.slice pp3 c3.1 cap3) c3.1 c3.2 := hBY.lists.rows j _ _ HV3.out HC3.out
            have hKY : Fr W (.slice (some ⟨gl, 0, none⟩) N lc) vs' vs3 Y := HK3.out.next hkY
            have hlY : vs3.length = N := HL3.out
            have hrowL := hBY.lists.row
            have hglY := (hrowL.lt gl rfl)
            have d0 : Y.cell? ⟨gl, j, none⟩ = some (.slice pp3 c3.1 cap3) := by
              have := hrowL.cells (g := gl) rfl j _ HV3.out
              rwa [add0] at this
            have d1 : Y.frozen? ⟨gl, j, none⟩ = false := by
              obtain ⟨_, cur, hh⟩ := ownsRow_blk hrowL rfl
              simp [World.frozen?, hh]
            have hnlg : (Value.slice pp3 c3.1 cap3).ownBlock ≠ some gl := fun e => hBY.lists.ne_row (by decide) HV3.out e rfl
            have hnpb : (Value.slice pp3 c3.1 cap3).ownBlock ≠ some pb := fun e => hBY.pbne.1 (.inr ⟨_, List.mem_of_getElem? HV3.out, e⟩)
            have hpbY := heap_lt hBY.box
            have hpV := hglY.2
            have hDY : D ≤ Y.heap.size := by omega
            have hneg : -((j : Int) + 1) = -1 - (j : Int) := by omega
            have HNEG := Lib.hid hneg
            have HBY := Lib.hid hBY
            have HKY := Lib.hid hKY
            have hlv3 : Hid ((Value.slice (some ⟨gl, 0, none⟩) N lc) = .slice (some ⟨gl, 0, none⟩) vs3.length lc) := by show _ = _; rw [hlY]
            have hrest : Hid (∀ (v' : Value) (c' : Nat × List Value), c'.1 = c3.1 + 1 → ∀ Z, B4 D pb Z (.slice (some ⟨gl, 0, none⟩) N lc) nv' sz' (.slice tp tl tc) (vs3.set j v') (cs3.set j c') ns' → Fr W (.slice (some ⟨gl, 0, none⟩) N lc) vs' (vs3.set j v') Z →
                ∃ vs4 cs4 c4, B4 D pb Z (.slice (some ⟨gl, 0, none⟩) N lc) nv' sz' (.slice tp tl tc) vs4 cs4 ns' ∧ vs4.length = N ∧ (∀ (i : Nat) (c : Nat × List Value), j + 1 ≤ i → cs4[i]? = some c → c.1 ≤ 200000) ∧ cs4[j]? = some c4 ∧ rn.toNat - (c3.1 + 1) = rn.toNat - c4.1 ∧ c4.1 ≤ 300000 ∧ Fr W (.slice (some ⟨gl, 0, none⟩) N lc) vs' vs4 Z) := Lib.hid fun v' c' he Z hZ hkZ =>
              ⟨_, _, c', hZ, by rw [List.length_set]; exact HL3.out, fun i c hi hc => HS3.out i c hi (by rwa [List.getElem?_set_ne (by omega)] at hc), List.getElem?_set_self (List.getElem?_eq_some_iff.1 HC3.out).1, by rw [he], by omega, hkZ⟩
            obtain ⟨i1, hx1, hy0, hy1, hy2⟩ := info_parts Try.treeInfo4
            obtain ⟨⟨b0, b1, b2, b3⟩, f0, f1, f2, f3⟩ := box44 hBY.box
            have hrow0 := hrY
            have hcl0 := hrY.1
            have HCL0 := Lib.hid hcl0
            have hc3m : c3.1 + 1 ≤ maxLen := by unfold maxLen; omega
            clear hBY hKY hkY hlY hrowL hrY hneg hcl0 hglY
            cases bb with
            | true =>
              go_upto_region 9 with (at_builtin; refine wpList_append_lies _ rfl _ _ _ rfl D T i1 _ 4 64 Try.underlying22 hx1 hy0 hy1 hy2 rfl (by decide) (.slice pp3 c3.1 cap3) c3.1 c3.2 rfl (hrow0.alloc _) ⟨Y.heap.size, 0, none⟩ 1 1 [.string e0, .int .i64 0, .string e0, .slice none 0 0] rfl rfl (World.news_of_block (cs := #[.string e0, .int .i64 0, .string e0, .slice none 0 0]) (t := T) (fr := (0, 0)) (heap_alloc_new Y _)) (by simp [Value.oneCell']) (by omega) hc3m (by omega) (by simp; omega) (Y.heap.size + 1) (by simp) ?_; intro g1 c1 w1 hown1 hgrow1 hat1 hlt1; have hl1 : w1.cell? ⟨gl, j, none⟩ = some (.slice pp3 c3.1 cap3) := (hgrow1.cell_far ⟨gl, j, none⟩ (by simp; omega) (Ne.symm hnlg)).trans ((World.cell?_alloc_past _ _ _ hpV).trans d0); have hf1 : w1.frozen? ⟨gl, j, none⟩ = false := (hgrow1.frozen_far ⟨gl, j, none⟩ (by simp; omega) (Ne.symm hnlg)).trans ((World.frozen?_alloc_past _ _ _ hpV).trans d1))
              have hat2 : (Value.slice pp3 c3.1 cap3).ownBlock = some g1 ∨ Y.heap.size ≤ g1 := (by simpa using hat1 : (Value.slice pp3 c3.1 cap3).ownBlock = some g1 ∨ g1 = Y.heap.size + 1).imp_right (fun h => by omega)
              have hkg : Keeps (fun b => (Value.slice pp3 c3.1 cap3).ownBlock = some b) Y w1 := ((Keeps.refl _ Y).alloc _).grown hgrow1 (fun k hk _ => hk)
              obtain ⟨q1, q2, q3⟩ := HBY.out.pushA hlv3.out HV3.out HC3.out hkg hown1 hat2
              have q4 := HKY.out.push q2 q3
              rw [HNEG.out] at q1 q4
              clear q2 q3
              have hgg : g1 ≠ gl := fun e => by
                rcases hat2 with h | h
                · exact hnlg (e ▸ h)
                · omega
              have hcz : ∀ d v, ([.string e0, .int .i64 0, .string e0, .slice none 0 0] : List Value)[d]? = some v → (w1.setCell ⟨gl, j, none⟩ (.slice (some ⟨g1, 0, none⟩) (c3.1 + 1) c1)).cell? ⟨g1, c3.1 * 4 + d, none⟩ = some v := fun d v hd => by
                rw [World.cell?_setCell_far _ _ _ _ (fun e => hgg e.symm)]
                have h1 := hown1.cells (g := g1) rfl (c3.1 * 4 + d) v (by rw [List.getElem?_append_right (by rw [HCL0.out]; omega), HCL0.out, show c3.1 * 4 + d - c3.1 * 4 = d by omega]; exact hd)
                rwa [add0] at h1
              have z0 := hcz 0 _ rfl
              have z1 := hcz 1 _ rfl
              have z2 := hcz 2 _ rfl
              have z3 := hcz 3 _ rfl
              have hfz : ∀ q, (w1.setCell ⟨gl, j, none⟩ (.slice (some ⟨g1, 0, none⟩) (c3.1 + 1) c1)).frozen? ⟨g1, q, none⟩ = false := fun q => by
                obtain ⟨_, cur, hh⟩ := ownsRow_blk hown1 rfl
                rw [World.frozen?_setCell]
                simp [World.frozen?, hh]
              have y0 := hfz (c3.1 * 4)
              have y1 := hfz (c3.1 * 4 + 1)
              have y2 := hfz (c3.1 * 4 + 2)
              have y3 := hfz (c3.1 * 4 + 3)
              obtain ⟨w2, hw2⟩ : ∃ w2, w2 = w1.setCell ⟨gl, j, none⟩ (.slice (some ⟨g1, 0, none⟩) (c3.1 + 1) c1) := ⟨_, rfl⟩
              rw [← hw2] at q1 q4 z0 z1 z2 z3 y0 y1 y2 y3 ⊢
              have HF := Lib.hid (hrest.out _ (c3.1 + 1, c3.2 ++ mG4 j) rfl _ q1 q4)
              have hc31 : (c3.1 : Int) < (c3.1 : Int) + 1 := by omega
              have z0 : w2.cell? ⟨g1, c3.1 * 4, none⟩ = some (.string e0) := z0
              clear hcz hfz q1 q4 hkg hat2 hown1 hgrow1 hat1 hlt1 hl1 hf1 hw2 hrest b0 b1 b2 b3 f0 f1 f2 f3 d0 d1
              go_wp2_with fail
              go_roundg (rn.toNat - (c3.1 + 1))
              case measure => have := HM3.out; omega
              case rel => exact HF.out
            | false =>
              have hwj : IntKind.i64.wrap (-1 - (j : Int)) = -1 - (j : Int) := IntWalk.i64_in _ (by omega)
              go_upto_region 10 with fail
              go_region_law ((refine step_append_lies _ (by rfl) _ _ _ (by rfl) D T i1 _ 4 64 Try.underlying22 hx1 hy0 hy1 hy2 rfl (by omega) (.slice pp3 c3.1 cap3) c3.1 c3.2 (by rfl) (by first | exact (hrow0.alloc _).drew | exact World.ownsRow.alloc hrow0.drew _) ⟨Y.heap.size, 0, none⟩ 1 1 [.string e0, .int .i64 (-1 - (j : Int)), .string kX4, .slice none 0 0] (by rfl) (by rfl) (World.news_of_block (cs := #[.string e0, .int .i64 (-1 - (j : Int)), .string kX4, .slice none 0 0]) (t := T) (fr := (0, 0)) (heap_alloc_new Y _)) (by simp [Value.oneCell']) (by omega) hc3m (by omega) (by simp; omega) (Y.heap.size + 1) (by simp) ?_; intro g1 c1 w1 hown1 hgrow1 hat1 hlt1; have hl1 : w1.cell? ⟨gl, j, none⟩ = some (.slice pp3 c3.1 cap3) := (hgrow1.cell_far ⟨gl, j, none⟩ (by simp; omega) (Ne.symm hnlg)).trans ((World.cell?_alloc_past _ _ _ hpV).trans d0); have hf1 : w1.frozen? ⟨gl, j, none⟩ = false := (hgrow1.frozen_far ⟨gl, j, none⟩ (by simp; omega) (Ne.symm hnlg)).trans ((World.frozen?_alloc_past _ _ _ hpV).trans d1); have hb1 : w1.cell? ⟨pb, 0, none⟩ = some (.slice (some ⟨gl, 0, none⟩) N lc) := (hgrow1.cell_far ⟨pb, 0, none⟩ (by simp; omega) (Ne.symm hnpb)).trans ((World.cell?_alloc_past _ _ _ hpbY).trans b0)))
              all_goals go_wp2_with fail
              all_goals
                have hown2 : w1.ownsRow D T 4 (.slice (some ⟨g1, 0, none⟩) (c3.1 + 1) c1) (c3.1 + 1) (c3.2 ++ mG4 j) := by show w1.ownsRow D T 4 _ _ (c3.2 ++ [.string e0, .int .i64 (-((j : Int) + 1)), .string kX4, .slice none 0 0]); rw [HNEG.out]; exact hown1
                have hkg : Keeps (fun b => (Value.slice pp3 c3.1 cap3).ownBlock = some b) Y w1 := ((Keeps.refl _ Y).alloc (.cells #[.string e0, .int .i64 (-1 - (j : Int)), .string kX4, .slice none 0 0] T)).grown (show (Y.alloc (.cells #[.string e0, .int .i64 (-1 - (j : Int)), .string kX4, .slice none 0 0] T)).grownBy w1 (Value.slice pp3 c3.1 cap3).ownBlock from ⟨hgrow1.os, hgrow1.tape, hgrow1.output, hgrow1.size, hgrow1.block⟩) (fun k hk _ => hk)
                obtain ⟨q1, q2, q3⟩ := HBY.out.push hlv3.out HV3.out HC3.out hkg hown2 (hat1.imp_right (fun h => by omega))
                have HF := Lib.hid (hrest.out _ (c3.1 + 1, c3.2 ++ mG4 j) rfl _ q1 (HKY.out.push q2 q3))
                go_roundg (rn.toNat - (c3.1 + 1))
                case measure => have := HM3.out; omega
                case rel => exact HF.out
        · go_wp2_with fail
          go_roundg (N - (j + 1))
          case measure => have := HJ.out; omega
          case rel => exact ⟨j + 1, by have := HJ.out; omega, by go_num, vs3, cs3, HB3.out, HL3.out, HS3.out, HK3.out⟩
    · clear hB
      have HKF : Hid (Keeps (fun b => B4.Blk pb lv nv vs b ∨ b ∈ bs) w V) := Lib.hid (HKT.out.trans' HKV.out.1 (fun b hb hl => by
        rcases HFR.out b (.inr (.inl hb)) with h1 | h1 | h1
        · exact .inl h1
        · exact .inr h1
        · omega))
      obtain ⟨gn, cn, hnv⟩ : ∃ gn cn, nv' = .slice gn N cn := by
        obtain ⟨pp, cap', he, _⟩ := ownsRow_slice HB.out.lens
        exact ⟨pp, cap', by rw [he, HL2.out]⟩
      subst hnv
      clear b0 b1 b2 b3 f0 f1 f2 f3
      obtain ⟨⟨b0, b1, b2, b3⟩, f0, f1, f2, f3⟩ := box44 HB.out.box
      go_wp2_with fail
      go_loopg [5] N (fun m i Y => ∃ k : Nat, k + m = N ∧ i = .int .i64 k ∧ Keeps (fun _ => False) V Y)
      case atStart => exact ⟨0, by omega, rfl, Keeps.refl _ _⟩
      case round =>
        obtain ⟨Y, hY⟩ : ∃ Z, Z = wr := ⟨_, rfl⟩
        subst hY
        obtain ⟨k, hkm, rfl, hkY⟩ := hrel
        have HKM := Lib.hid hkm
        have HKY := Lib.hid hkY
        have hBY := HB.out.next hkY
        have hk0 : (0 : Int) ≤ (k : Int) := Int.natCast_nonneg _
        clear hkm hkY b0 b1 b2 b3 f0 f1 f2 f3
        obtain ⟨⟨b0, b1, b2, b3⟩, f0, f1, f2, f3⟩ := box44 hBY.box
        by_cases hkN : k < N
        · obtain ⟨v, c, hv, hc, hrow⟩ := hBY.lists.at_ (i := k) (by rw [HL2.out]; exact hkN)
          obtain ⟨n, hn⟩ : ∃ n, ns'[k]? = some n := ⟨_, List.getElem?_eq_getElem (by rw [hBY.nlen, HL2.out]; exact hkN)⟩
          obtain ⟨hnc, hn5, hgood⟩ := hBY.good k n c hn hc
          obtain ⟨gl, rfl⟩ : ∃ gl, lp = some ⟨gl, 0, none⟩ := by
            obtain ⟨pp, cap', he, _, _, h3⟩ := ownsRow_slice hBY.lists.row
            simp only [Value.slice.injEq] at he
            obtain ⟨rfl, _, _⟩ := he
            exact h3 (by rw [HL2.out]; omega)
          obtain ⟨ng, rfl⟩ : ∃ ng, gn = some ⟨ng, 0, none⟩ := by
            obtain ⟨pp, cap', he, _, _, h3⟩ := ownsRow_slice hBY.lens
            simp only [Value.slice.injEq] at he
            obtain ⟨rfl, _, _⟩ := he
            exact h3 (by rw [HL2.out]; omega)
          obtain ⟨pp, cap, rfl, hcap, hcm, hpp⟩ := ownsRow_slice hrow
          have hmx : cap ≤ 9223372036854775807 := by unfold maxLen at hcm; omega
          obtain ⟨cn1, hcn1⟩ : ∃ q, c.1 = q := ⟨_, rfl⟩
          have hcn9 : cn1 ≤ cap := by rw [← hcn1]; exact hcap
          have hfacts : ∀ Z, Keeps (fun _ => False) Y Z → Z.cell? ⟨pb, 0, none⟩ = some (.slice (some ⟨gl, 0, none⟩) N lc) ∧ Z.cell? ⟨pb, 1, none⟩ = some (.slice (some ⟨ng, 0, none⟩) N cn) ∧ Z.cell? ⟨gl, k, none⟩ = some (.slice pp cn1 cap) ∧ Z.cell? ⟨ng, k, none⟩ = some (.int .i64 (n : Int)) := fun Z hkZ => by
            have hBZ := hBY.next hkZ
            obtain ⟨⟨q0, q1, _, _⟩, _⟩ := box44 hBZ.box
            have e1 := hBZ.lists.row.cells (g := gl) rfl k _ hv
            have e2 := hBZ.lens.cells (g := ng) rfl k (.int .i64 (n : Int)) (by rw [List.getElem?_map, hn]; rfl)
            rw [add0] at e1 e2
            rw [hcn1] at e1
            exact ⟨q0, q1, e1, e2⟩
          have hcellq : ∀ Z, Keeps (fun _ => False) Y Z → ∀ q, q < cn1 → ∃ g, pp = some ⟨g, 0, none⟩ ∧ Z.cell? ⟨g, q * 4, none⟩ = some (.string e0) ∧ Z.cell? ⟨g, q * 4 + 1, none⟩ = some (.int .i64 (-1 - (k : Int))) ∧ Z.cell? ⟨g, q * 4 + 2, none⟩ = some (.string (if q < n then e0 else kX4)) ∧ Z.cell? ⟨g, q * 4 + 3, none⟩ = some (.slice none 0 0) := fun Z hkZ q hq => by
            obtain ⟨g, rfl⟩ := hpp (by omega)
            have hr := (hBY.next hkZ).lists.rows k _ _ hv hc
            obtain ⟨q0, q1, q2, q3⟩ := hgood q (by omega)
            have hcc : ∀ i u, c.2[i]? = some u → Z.cell? ⟨g, i, none⟩ = some u := fun i u hu => by
              have := hr.cells (g := g) rfl i u hu
              rwa [add0] at this
            rw [show -((k : Int) + 1) = -1 - (k : Int) by omega] at q1
            exact ⟨g, rfl, hcc _ _ q0, hcc _ _ q1, hcc _ _ q2, hcc _ _ q3⟩
          have HFA := Lib.hid hfacts
          have HCQ := Lib.hid hcellq
          have hk1 : (k : Int) < (N : Int) := by omega
          clear hv hc hrow hn hgood hpp hcm hfacts hcellq hBY hcn1 hcap hnc b0 b1 b2 b3 f0 f1 f2 f3
          obtain ⟨b0, b1, d0, n0⟩ := HFA.out Y (Keeps.refl _ _)
          go_wp2_with fail
          go_loopg [6] cn1 (fun m i Z => ∃ q : Nat, q + m = cn1 ∧ i = .int .i64 q ∧ Keeps (fun _ => False) Y Z)
          case atStart => exact ⟨0, by omega, rfl, Keeps.refl _ _⟩
          case round =>
            obtain ⟨Z, hZ⟩ : ∃ X, X = wr := ⟨_, rfl⟩
            subst hZ
            obtain ⟨q, hqm, rfl, hkZ⟩ := hrel
            have HQM := Lib.hid hqm
            have HKZ := Lib.hid hkZ
            have hq0 : (0 : Int) ≤ (q : Int) := Int.natCast_nonneg _
            clear b0 b1 d0 n0
            obtain ⟨b0, b1, d0, n0⟩ := HFA.out Z hkZ
            clear hqm hkZ
            by_cases hqc : q < cn1
            · obtain ⟨g, rfl, a0, a1, a2, a3⟩ := HCQ.out Z HKZ.out q hqc
              have hq1 : (q : Int) < (cn1 : Int) := by omega
              obtain ⟨tx, htx⟩ : ∃ tx, (if q < n then e0 else kX4) = tx := ⟨_, rfl⟩
              rw [htx] at a2
              obtain ⟨Z2, hZ2⟩ : ∃ Z2, Z2 = Z.alloc (.cells (four e0 (-1 - (k : Int)) tx none 0 0) T) := ⟨_, rfl⟩
              have hkz2 : Keeps (fun _ => False) Z Z2 := by rw [hZ2]; exact (Keeps.refl _ _).alloc _
              have hbx : Z2.heap[Z.heap.size]? = some (.cells (four e0 (-1 - (k : Int)) tx none 0 0) T (0, 0)) := by rw [hZ2]; exact heap_alloc_new _ _
              have HZ2 := Lib.hid hZ2
              have HKZ2 := Lib.hid (HKZ.out.trans hkz2)
              have HTX := Lib.hid htx
              have hwk : IntKind.i64.wrap (-1 - (k : Int)) = -1 - (k : Int) := IntWalk.i64_in _ (by omega)
              clear hZ2 hkz2 htx
              go_upto_region 18 with fail
              rw [← HZ2.out]
              clear b0 b1 d0 n0 a0 a1 a2 a3 HZ2
              obtain ⟨_, b1, _, n0⟩ := HFA.out Z2 HKZ2.out
              obtain ⟨x0, x1, x2, x3, _⟩ := box4 hbx
              by_cases hqn : q < n
              · obtain rfl : e0 = tx := by have := HTX.out; rwa [if_pos hqn] at this
                have hdec : decide (n ≤ q) = false := by simp; omega
                have hkb1 := fun d os => cell_regrown b1 d os
                have hkn0 := fun d os => cell_regrown n0 d os
                have hkx0 := fun d os => cell_regrown x0 d os
                have hkx1 := fun d os => cell_regrown x1 d os
                have hkx2 := fun d os => cell_regrown x2 d os
                have hkx3 := fun d os => cell_regrown x3 d os
                refine wp_region_quiet_below (by kernel_rfl) (by kernel_rfl) ?_
                repeat (go_big_quiet_step (fail))
                refine wpQuiet_nil ?_
                intro W8' hk8
                have HE := Lib.hid (HKZ2.out.trans (keeps_regrown hk8))
                clear hkb1 hkn0 hkx0 hkx1 hkx2 hkx3 hk8 x0 x1 x2 x3 b1 n0 hwk
                go_wp2_with fail
                go_roundg (gk - 1)
                case measure => have := HQM.out; omega
                case rel => exact ⟨q + 1, by have := HQM.out; omega, by go_num, HE.out⟩
              · obtain rfl : kX4 = tx := by have := HTX.out; rwa [if_neg hqn] at this
                have hdec : decide (n ≤ q) = true := by simp; omega
                have hkb1 := fun d os => cell_regrown b1 d os
                have hkn0 := fun d os => cell_regrown n0 d os
                have hkx0 := fun d os => cell_regrown x0 d os
                have hkx1 := fun d os => cell_regrown x1 d os
                have hkx2 := fun d os => cell_regrown x2 d os
                have hkx3 := fun d os => cell_regrown x3 d os
                refine wp_region_quiet_below (by kernel_rfl) (by kernel_rfl) ?_
                repeat (go_big_quiet_step (fail))
                refine wpQuiet_nil ?_
                intro W8' hk8
                have HE := Lib.hid (HKZ2.out.trans (keeps_regrown hk8))
                clear hkb1 hkn0 hkx0 hkx1 hkx2 hkx3 hk8 x0 x1 x2 x3 b1 n0 hwk
                go_wp2_with fail
                go_roundg (gk - 1)
                case measure => have := HQM.out; omega
                case rel => exact ⟨q + 1, by have := HQM.out; omega, by go_num, HE.out⟩
            · go_wp2_with fail
              go_roundg (N - (k + 1))
              case measure => have := HKM.out; omega
              case rel => exact ⟨k + 1, by have := HKM.out; omega, by go_num, HKY.out.trans HKZ.out⟩
        · clear hBY
          go_wp2_with fail
          go_ret
          exact ⟨rfl, HKF.out.trans (HKY.out.mono (fun _ h _ => h.elim))⟩
end Go.Proofs.Ytnphhibfiklfjaa
