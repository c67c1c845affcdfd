/-
  (*espalierlaw4.Lists).Apart: its walk.
-/
import Derived.Test.YtnphhibfiklfjaaDig

import Derived.Test.YtnphhibfiklfjaaQuietR

import Derived.BigQuiet

set_option linter.unusedVariables false

set_option linter.unusedSimpArgs false

namespace Go.Proofs.Ytnphhibfiklfjaa

open Go.RowKit

theorem Try.strInfo6 : (Try.prog.info? TSt).map (fun i => (i.zero, i.size, i.bytes)) = some (some (.string e0), 1, 16) := by kernel_rfl
section

variable {D kb : Nat} {W W1 : World} {lv : Value} {sz : Int} {vs : List Value} {cs : List (Nat × List Value)}

/-- One name more at the i-th. -/
theorem K2.push {w1 : World} (h : K2 D kb W lv sz vs cs) {i gl cl g' c' : Nat} (hlv : lv = .slice (some ⟨gl, 0, none⟩) vs.length cl) {v : Value} {c : Nat × List Value} (hv : vs[i]? = some v) (hc : cs[i]? = some c)
    (hk : Keeps (fun b => v.ownBlock = some b) W w1) {ys : List Value} (hrow : w1.ownsRow D TSt 1 (.slice (some ⟨g', 0, none⟩) (c.1 + 1) c') (c.1 + 1) ys) (hat : v.ownBlock = some g' ∨ W.heap.size ≤ g') :
    K2 D kb (w1.setCell ⟨gl, i, none⟩ (.slice (some ⟨g', 0, none⟩) (c.1 + 1) c')) lv sz (vs.set i (.slice (some ⟨g', 0, none⟩) (c.1 + 1) c')) (cs.set i (c.1 + 1, ys)) ∧ Keeps (Lists.Blk lv vs) W (w1.setCell ⟨gl, i, none⟩ (.slice (some ⟨g', 0, none⟩) (c.1 + 1) c')) ∧
      ∀ b, Lists.Blk lv (vs.set i (.slice (some ⟨g', 0, none⟩) (c.1 + 1) c')) b → Lists.Blk lv vs b ∨ W.heap.size ≤ b := by
  obtain ⟨h1, h2, h3⟩ := h.lists.put (by decide) hlv hv hc hk (c' := (c.1 + 1, ys)) hrow (fun b hb => by
    have e : g' = b := by simpa [Value.ownBlock] using hb
    rw [← e]; exact hat)
  exact ⟨⟨(h2.block kb (heap_lt h.box) h.pbne).trans h.box, h1⟩, h2, h3⟩
/-- A place of the i-th is written. -/
theorem K2.write {g n cap k : Nat} (h : K2 D kb W lv sz vs cs) {i : Nat} {c : Nat × List Value} (hv : vs[i]? = some (.slice (some ⟨g, 0, none⟩) n cap)) (hc : cs[i]? = some c) (x : Value) :
    K2 D kb (W.setCell ⟨g, k, none⟩ x) lv sz vs (cs.set i (c.1, c.2.set k x)) ∧ Keeps (Lists.Blk lv vs) W (W.setCell ⟨g, k, none⟩ x) := by
  have hk : Keeps (fun b => (Value.slice (some ⟨g, 0, none⟩) n cap).ownBlock = some b) W (W.setCell ⟨g, k, none⟩ x) := (Keeps.refl (fun b => (Value.slice (some ⟨g, 0, none⟩) n cap).ownBlock = some b) W).setCell (p := ⟨g, k, none⟩) (fun _ => rfl) _
  have hr := h.lists.rows i _ c hv hc
  have hn : c.1 = n := by
    obtain ⟨pp, cap', he, _⟩ := ownsRow_slice hr
    simp only [Value.slice.injEq] at he
    exact he.2.1.symm
  have hk2 : Keeps (Lists.Blk lv vs) W (W.setCell ⟨g, k, none⟩ x) := hk.mono fun b hb _ => .inr ⟨_, List.mem_of_getElem? hv, hb⟩
  refine ⟨⟨(hk2.block kb (heap_lt h.box) h.pbne).trans h.box, h.lists.write (by decide) hv hc hk ?_⟩, hk2⟩
  subst hn
  exact ownsRow_setAt hr k x
end

/-- All places of the i-th hold its mark. -/
def GoodN (i : Nat) (c : Nat × List Value) : Prop := ∀ k : Nat, k < c.1 → c.2[k]? = some (.string (digS i))
set_option maxRecDepth 100000 in
set_option maxHeartbeats 12800000 in
theorem apart2_any (D kb : Nat) (lv : Value) (sz : Int) (vs : List Value) (cs : List (Nat × List Value)) (w : World) (h : K2 D kb w lv sz vs cs) (hDw : D ≤ w.heap.size) (hvl : vs.length ≤ 100000) (hsm : ∀ c ∈ cs, c.1 ≤ 100000) :
    Calls Try.prog 31 #[.pointer (some ⟨kb, 0, none⟩)] w fun e w' => e = .returned (.bool true) ∧ Keeps (K2.Blk kb lv vs) w w' := by
  obtain ⟨N, hN⟩ : ∃ N, vs.length = N := ⟨_, rfl⟩
  rw [hN] at hvl
  obtain ⟨lp, lc, rfl⟩ : ∃ lp lc, lv = .slice lp N lc := by
    obtain ⟨lp, lc, h1, _⟩ := ownsRow_slice h.lists.row
    exact ⟨lp, lc, by rw [h1, hN]⟩
  have hst : ∃ vs2 cs2, K2 D kb w (.slice lp N lc) sz vs2 cs2 ∧ vs2.length = N ∧ (∀ (i : Nat) (c : Nat × List Value), 0 ≤ i → cs2[i]? = some c → c.1 ≤ 100000) ∧ (∀ (i : Nat) (c : Nat × List Value), i < 0 → cs2[i]? = some c → GoodN i c) ∧ Fr w (.slice lp N lc) vs vs2 w := ⟨vs, cs, h, hN, fun i c _ hc => hsm c (List.mem_of_getElem? hc), fun i c hi => by omega, Keeps.refl _ _, fun b hb => .inl hb⟩
  have HST := Lib.hid hst
  have hNz : (N : Int) ≤ 100000 := by omega
  have hpbW := heap_lt h.box
  obtain ⟨⟨b0, b1⟩, f0, f1⟩ := box22 h.box
  clear h hst hN hsm
  go_enter Try.func31, Try.ntmps31
  go_wp2_with fail
  go_loopg [3] N (fun m i V => ∃ j : Nat, j + m = N ∧ i = .int .i64 j ∧ (∃ vs2 cs2, K2 D kb V (.slice lp N lc) sz vs2 cs2 ∧ vs2.length = N ∧ (∀ (i : Nat) (c : Nat × List Value), j ≤ i → cs2[i]? = some c → c.1 ≤ 100000) ∧ (∀ (i : Nat) (c : Nat × List Value), i < j → cs2[i]? = some c → GoodN i c) ∧ Fr w (.slice lp N lc) vs vs2 V))
  case atStart => exact ⟨0, by omega, rfl, HST.out⟩
  case round =>
    obtain ⟨V, hV⟩ : ∃ X, X = wr := ⟨_, rfl⟩
    subst hV
    obtain ⟨j, hjm, rfl, vs2, cs2, hB, hl2, hs2, hg2, hkV⟩ := hrel
    have HJ := Lib.hid hjm
    have HL2 := Lib.hid hl2
    have HS2 := Lib.hid hs2
    have HG2 := Lib.hid hg2
    have HKV := Lib.hid hkV
    have HB := Lib.hid hB
    have hj0 : (0 : Int) ≤ (j : Int) := Int.natCast_nonneg _
    clear hjm hl2 hs2 hg2 hkV b0 b1 f0 f1
    obtain ⟨⟨b0, b1⟩, f0, f1⟩ := box22 hB.box
    by_cases hlt : j < N
    · obtain ⟨v, c, hv, hc, hrow⟩ := hB.lists.at_ (i := j) (by rw [HL2.out]; exact hlt)
      obtain ⟨gl, rfl⟩ : ∃ gl, lp = some ⟨gl, 0, none⟩ := by
        obtain ⟨pp, cap', he, _, _, h3⟩ := ownsRow_slice hB.lists.row
        simp only [Value.slice.injEq] at he
        obtain ⟨rfl, _, _⟩ := he
        exact h3 (by rw [HL2.out]; omega)
      obtain ⟨pp, cap, rfl, hcap, hcm, hpp⟩ := ownsRow_slice hrow
      have hc1 : c.1 ≤ 100000 := HS2.out j c (Nat.le_refl _) hc
      have hmx : cap ≤ 9223372036854775807 := by unfold maxLen at hcm; omega
      have d0 : V.cell? ⟨gl, j, none⟩ = some (.slice pp c.1 cap) := by
        have := hB.lists.row.cells (g := gl) rfl j _ hv
        rwa [add0] at this
      obtain ⟨rn, hrm⟩ : ∃ rn, roomF c.1 cap = rn := ⟨_, rfl⟩
      have hR : Hid (∀ W, Calls Try.prog 45 #[.int .i64 (c.1 : Int), .int .i64 (cap : Int)] W fun e w' => e = .returned (.int .i64 rn) ∧ w' = W) := Lib.hid fun W => (Room_any c.1 cap (by omega) (by omega) W).mono fun _ _ ⟨a, b⟩ => ⟨by rw [a, hrm], b.symm⟩
      have hrn1 : rn ≤ 170000 := by rw [← hrm, roomF]; split <;> omega
      have hj1 : (j : Int) < (N : Int) := by omega
      have HC := Lib.hid hc
      clear hv hc hrow hcm hpp hrm hB
      go_wp2_with fail
      go_still_tail 16, (by kernel_rfl)
      change wpList _ _ _ _ _ V.drew
      obtain ⟨V1, hV1⟩ : ∃ V1, V1 = V.drew := ⟨_, rfl⟩
      have hk1 : Keeps (fun _ => False) V V1 := by rw [hV1]; exact (Keeps.refl _ V).drew
      have HB1 := Lib.hid (HB.out.next hk1)
      rw [← hV1]
      have HK1 := Lib.hid (HKV.out.next hk1)
      clear hV1 hk1 b0 b1 f0 f1 d0
      go_wp2_with fail
      refine (hR.out _).mono ?_
      rintro e V1 ⟨rfl, rfl⟩
      go_wp2_with fail
      go_loopg [] (rn.toNat - c.1) (fun m X => ∃ vs3 cs3 c3, K2 D kb X (.slice (some ⟨gl, 0, none⟩) N lc) sz vs3 cs3 ∧ vs3.length = N ∧ (∀ (i : Nat) (c : Nat × List Value), j + 1 ≤ i → cs3[i]? = some c → c.1 ≤ 100000) ∧ (∀ (i : Nat) (c : Nat × List Value), i < j → cs3[i]? = some c → GoodN i c) ∧ cs3[j]? = some c3 ∧ m = rn.toNat - c3.1 ∧ c3.1 ≤ 200000 ∧ Fr w (.slice (some ⟨gl, 0, none⟩) N lc) vs vs3 X)
      case atStart => exact ⟨vs2, cs2, c, HB1.out, HL2.out, fun i c h => HS2.out i c (by omega), HG2.out, HC.out, rfl, by omega, HK1.out⟩
      case round =>
        obtain ⟨X, hX⟩ : ∃ Y, Y = wr := ⟨_, rfl⟩
        subst hX
        obtain ⟨vs3, cs3, c3, hB3, hl3, hs3, hg3, hc3, hm3, hc3b, hk3⟩ := hrel
        have HL3 := Lib.hid hl3
        have HS3 := Lib.hid hs3
        have HG3 := Lib.hid hg3
        have HC3 := Lib.hid hc3
        have HM3 := Lib.hid hm3
        have HK3 := Lib.hid hk3
        have HB3 := Lib.hid hB3
        obtain ⟨⟨b0, b1⟩, f0, f1⟩ := box22 hB3.box
        obtain ⟨v3, c', hv3, hc', hrow3⟩ := hB3.lists.at_ (i := j) (by rw [hl3]; exact hlt)
        obtain rfl : c3 = c' := by rw [hc3] at hc'; simpa using hc'
        obtain ⟨pp3, cap3, rfl, hcap3, hcm3, hpp3⟩ := ownsRow_slice hrow3
        have d0 : X.cell? ⟨gl, j, none⟩ = some (.slice pp3 c3.1 cap3) := by
          have := hB3.lists.row.cells (g := gl) rfl j _ hv3
          rwa [add0] at this
        have HV3 := Lib.hid hv3
        have HR3 := Lib.hid hrow3
        have hmx3 : cap3 ≤ 9223372036854775807 := by unfold maxLen at hcm3; omega
        have HNN3 := Lib.hid hpp3
        clear hl3 hs3 hg3 hc3 hm3 hk3 hv3 hc' hcm3 hpp3 hB3
        by_cases hlt2 : (c3.1 : Int) < rn
        · have hrowL := HB3.out.lists.row
          have hglY := (hrowL.lt gl rfl)
          have d1 : X.frozen? ⟨gl, j, none⟩ = false := by
            obtain ⟨_, cur, hh⟩ := ownsRow_blk hrowL rfl
            simp [World.frozen?, hh]
          have hnlg : (Value.slice pp3 c3.1 cap3).ownBlock ≠ some gl := fun e => HB3.out.lists.ne_row (by decide) HV3.out e rfl
          have hnpb : (Value.slice pp3 c3.1 cap3).ownBlock ≠ some kb := fun e => HB3.out.pbne (.inr ⟨_, List.mem_of_getElem? HV3.out, e⟩)
          have hpbY := heap_lt HB3.out.box
          have hpV := hglY.2
          have hDY : D ≤ X.heap.size := by omega
          have hlv3 : Hid ((Value.slice (some ⟨gl, 0, none⟩) N lc) = .slice (some ⟨gl, 0, none⟩) vs3.length lc) := by show _ = _; rw [HL3.out]
          have hrest : Hid (∀ (v' : Value) (c' : Nat × List Value), c'.1 = c3.1 + 1 → ∀ Z, K2 D kb Z (.slice (some ⟨gl, 0, none⟩) N lc) sz (vs3.set j v') (cs3.set j c') → Fr w (.slice (some ⟨gl, 0, none⟩) N lc) vs (vs3.set j v') Z →
              ∃ vs4 cs4 c4, K2 D kb Z (.slice (some ⟨gl, 0, none⟩) N lc) sz vs4 cs4 ∧ vs4.length = N ∧ (∀ (i : Nat) (c : Nat × List Value), j + 1 ≤ i → cs4[i]? = some c → c.1 ≤ 100000) ∧ (∀ (i : Nat) (c : Nat × List Value), i < j → cs4[i]? = some c → GoodN i c) ∧ cs4[j]? = some c4 ∧ rn.toNat - (c3.1 + 1) = rn.toNat - c4.1 ∧ c4.1 ≤ 200000 ∧ Fr w (.slice (some ⟨gl, 0, none⟩) N lc) vs vs4 Z) := Lib.hid fun v' c' he Z hZ hkZ =>
            ⟨_, _, c', hZ, by rw [List.length_set]; exact HL3.out, fun i c hi hc => HS3.out i c hi (by rwa [List.getElem?_set_ne (by omega)] at hc), fun i c hi hc => HG3.out i c hi (by rwa [List.getElem?_set_ne (by omega)] at hc), List.getElem?_set_self (List.getElem?_eq_some_iff.1 HC3.out).1, by rw [he], by omega, hkZ⟩
          obtain ⟨i1, hx1, hy0, hy1, hy2⟩ := info_parts Try.strInfo6
          have hc3m : c3.1 + 1 ≤ maxLen := by unfold maxLen; omega
          clear hrowL hglY
          go_upto_region 6 with fail
          go_region_law ((refine step_append_lies _ (by rfl) _ _ _ (by rfl) D TSt i1 _ 1 16 Try.underlying58 hx1 hy0 hy1 hy2 rfl (by omega) (.slice pp3 c3.1 cap3) c3.1 c3.2 (by rfl) (by first | exact (hrow3.alloc _).drew | exact World.ownsRow.alloc hrow3.drew _) ⟨X.heap.size, 0, none⟩ 1 1 [.string e0] (by rfl) (by rfl) (World.news_of_block (cs := #[.string e0]) (t := TSt) (fr := (0, 0)) (heap_alloc_new X _)) (by simp [Value.oneCell']) (by omega) hc3m (by omega) (by simp; omega) (X.heap.size + 1) (by simp) ?_; intro g1 c1 w1 hown1 hgrow1 hat1 hlt1; have hl1 : w1.cell? ⟨gl, j, none⟩ = some (.slice pp3 c3.1 cap3) := (hgrow1.cell_far ⟨gl, j, none⟩ (by simp; omega) (Ne.symm hnlg)).trans ((World.cell?_alloc_past _ _ _ hpV).trans d0); have hf1 : w1.frozen? ⟨gl, j, none⟩ = false := (hgrow1.frozen_far ⟨gl, j, none⟩ (by simp; omega) (Ne.symm hnlg)).trans ((World.frozen?_alloc_past _ _ _ hpV).trans d1); have hb1 : w1.cell? ⟨kb, 0, none⟩ = some (.slice (some ⟨gl, 0, none⟩) N lc) := (hgrow1.cell_far ⟨kb, 0, none⟩ (by simp; omega) (Ne.symm hnpb)).trans ((World.cell?_alloc_past _ _ _ hpbY).trans b0)))
          all_goals go_wp2_with fail
          all_goals
            have hkg : Keeps (fun b => (Value.slice pp3 c3.1 cap3).ownBlock = some b) X w1 := ((Keeps.refl _ X).alloc (.cells #[.string e0] TSt)).grown (show (X.alloc (.cells #[.string e0] TSt)).grownBy w1 (Value.slice pp3 c3.1 cap3).ownBlock from ⟨hgrow1.os, hgrow1.tape, hgrow1.output, hgrow1.size, hgrow1.block⟩) (fun k hk _ => hk)
            obtain ⟨q1, q2, q3⟩ := HB3.out.push hlv3.out HV3.out HC3.out hkg hown1 (hat1.imp_right (fun h => by omega))
            have HF := Lib.hid (hrest.out _ (c3.1 + 1, c3.2 ++ [.string e0]) rfl _ q1 (HK3.out.push q2 q3))
            go_roundg (rn.toNat - (c3.1 + 1))
            case measure => have := HM3.out; omega
            case rel => exact HF.out
        · obtain ⟨n, hn⟩ : ∃ n, c3.1 = n := ⟨_, rfl⟩
          have hn2 : n ≤ 200000 := by omega
          have HN := Lib.hid hn
          have hnc : n ≤ cap3 := by rw [← hn]; exact hcap3
          have hDg := fun W => digits_any j (by omega) W
          have HDG := Lib.hid hDg
          clear hrow3 hDg
          go_wp2_with fail
          refine (HDG.out _).mono ?_
          rintro e X2 ⟨rfl, hkX⟩
          clear b0 b1 f0 f1 d0
          have hst3 : ∃ cs5 ys, K2 D kb X2 (.slice (some ⟨gl, 0, none⟩) N lc) sz vs3 cs5 ∧ (∀ (i : Nat) (c : Nat × List Value), j + 1 ≤ i → cs5[i]? = some c → c.1 ≤ 100000) ∧ (∀ (i : Nat) (c : Nat × List Value), i < j → cs5[i]? = some c → GoodN i c) ∧ cs5[j]? = some (n, ys) ∧ (∀ k, k < 0 → ys[k]? = some (.string (digS j))) ∧ Fr w (.slice (some ⟨gl, 0, none⟩) N lc) vs vs3 X2 :=
            ⟨cs3, c3.2, HB3.out.next hkX, HS3.out, HG3.out, by rw [HC3.out, ← HN.out], fun k hk => by omega, HK3.out.next hkX⟩
          have HST3 := Lib.hid hst3
          have hv3 : Hid (vs3[j]? = some (.slice pp3 n cap3)) := by rw [HN.out] at HV3; exact HV3
          have hnn : Hid (0 < n → ∃ g, pp3 = some ⟨g, 0, none⟩) := Lib.hid fun h0 => HNN3.out (by have := HN.out; omega)
          clear hst3 hkX hn
          go_wp2_with fail
          go_loopg [6] n (fun m i Y => ∃ k : Nat, k + m = n ∧ i = .int .i64 k ∧ ∃ cs5 ys, K2 D kb Y (.slice (some ⟨gl, 0, none⟩) N lc) sz vs3 cs5 ∧ (∀ (i : Nat) (c : Nat × List Value), j + 1 ≤ i → cs5[i]? = some c → c.1 ≤ 100000) ∧ (∀ (i : Nat) (c : Nat × List Value), i < j → cs5[i]? = some c → GoodN i c) ∧ cs5[j]? = some (n, ys) ∧ (∀ q, q < k → ys[q]? = some (.string (digS j))) ∧ Fr w (.slice (some ⟨gl, 0, none⟩) N lc) vs vs3 Y)
          case atStart => exact ⟨0, by omega, rfl, HST3.out⟩
          case round =>
            obtain ⟨Y, hY⟩ : ∃ Z, Z = wr := ⟨_, rfl⟩
            subst hY
            obtain ⟨k, hkm, rfl, cs5, ys, hB5, hs5, hg5, hc5, hys, hk5⟩ := hrel
            have hk0 : (0 : Int) ≤ (k : Int) := Int.natCast_nonneg _
            obtain ⟨⟨b0, b1⟩, f0, f1⟩ := box22 hB5.box
            have d0 : Y.cell? ⟨gl, j, none⟩ = some (.slice pp3 n cap3) := by
              have := hB5.lists.row.cells (g := gl) rfl j _ hv3.out
              rwa [add0] at this
            have HKM := Lib.hid hkm
            have HB5 := Lib.hid hB5
            have HS5 := Lib.hid hs5
            have HG5 := Lib.hid hg5
            have HC5 := Lib.hid hc5
            have HYS := Lib.hid hys
            have HK5 := Lib.hid hk5
            clear hkm hs5 hg5 hys hk5
            by_cases hkn : k < n
            · obtain ⟨g, rfl⟩ := hnn.out (by omega)
              have hrow5 := hB5.lists.rows j _ _ hv3.out hc5
              have hyl : ys.length = n := by simpa using hrow5.1
              have e0' : ∃ u, Y.cell? ⟨g, k, none⟩ = some u := by
                have := hrow5.cells (g := g) rfl k _ (List.getElem?_eq_getElem (by show k < ys.length; omega))
                rw [add0] at this
                exact ⟨_, this⟩
              obtain ⟨u0, e0'⟩ := e0'
              have e1 : Y.frozen? ⟨g, k, none⟩ = false := by
                obtain ⟨_, cur, hh⟩ := ownsRow_blk hrow5 rfl
                simp [World.frozen?, hh]
              obtain ⟨p1, p2⟩ := hB5.write (k := k) hv3.out hc5 (.string (digS j))
              have hjl : j < cs5.length := (List.getElem?_eq_some_iff.1 hc5).1
              have hnext : Hid (∃ cs6 ys', K2 D kb (Y.setCell ⟨g, k, none⟩ (.string (digS j))) (.slice (some ⟨gl, 0, none⟩) N lc) sz vs3 cs6 ∧ (∀ (i : Nat) (c : Nat × List Value), j + 1 ≤ i → cs6[i]? = some c → c.1 ≤ 100000) ∧ (∀ (i : Nat) (c : Nat × List Value), i < j → cs6[i]? = some c → GoodN i c) ∧ cs6[j]? = some (n, ys') ∧ (∀ q, q < k + 1 → ys'[q]? = some (.string (digS j))) ∧ Fr w (.slice (some ⟨gl, 0, none⟩) N lc) vs vs3 (Y.setCell ⟨g, k, none⟩ (.string (digS j)))) := Lib.hid
                ⟨_, ys.set k (.string (digS j)), p1, fun i c hi hc => HS5.out i c hi (by rwa [List.getElem?_set_ne (by omega)] at hc), fun i c hi hc => HG5.out i c hi (by rwa [List.getElem?_set_ne (by omega)] at hc), List.getElem?_set_self hjl, fun q hq => by
                  by_cases hqk : q = k
                  · subst hqk; rw [List.getElem?_set_self (by show q < ys.length; omega)]
                  · rw [List.getElem?_set_ne (fun e => hqk e.symm)]; exact HYS.out q (by omega), HK5.out.push p2 (fun b hb => .inl hb)⟩
              have hk1 : (k : Int) < (n : Int) := by omega
              clear hrow5 p1 p2 hB5 hc5
              go_wp2_with fail
              go_roundg (gk - 1)
              case measure => have := HKM.out; omega
              case rel => exact ⟨k + 1, by have := HKM.out; omega, by go_num, hnext.out⟩
            · have hkn' : k = n := by have := HKM.out; omega
              clear hB5 hc5
              go_wp2_with fail
              go_roundg (N - (j + 1))
              case measure => have := HJ.out; omega
              case rel =>
                refine ⟨j + 1, by have := HJ.out; omega, by go_num, vs3, cs5, HB5.out, HL3.out, HS5.out, fun i c hi hc => ?_, HK5.out⟩
                by_cases hij : i = j
                · subst hij
                  rw [HC5.out] at hc
                  simp only [Option.some.injEq] at hc
                  subst hc
                  exact fun q hq => HYS.out q (by rw [hkn']; exact hq)
                · exact HG5.out i c (by omega) hc
    · have hjN : j = N := by have := HJ.out; omega
      subst hjN
      clear hB
      have HKF : Hid (Keeps (K2.Blk kb (.slice lp j lc) vs) w V) := Lib.hid (HKV.out.1.mono fun b hb _ => .inr hb)
      go_wp2_with fail
      go_loopg [7] j (fun m i Y => ∃ k : Nat, k + m = j ∧ i = .int .i64 k ∧ Keeps (fun _ => False) V Y)
      case atStart => exact ⟨0, by omega, rfl, Keeps.refl _ _⟩
      case round =>
        obtain ⟨Y, hY⟩ : ∃ Z, Z = wr := ⟨_, rfl⟩
        subst hY
        obtain ⟨k, hkm, rfl, hkY⟩ := hrel
        have HKM := Lib.hid hkm
        have HKY := Lib.hid hkY
        have hBY := HB.out.next hkY
        have hk0 : (0 : Int) ≤ (k : Int) := Int.natCast_nonneg _
        clear hkm hkY b0 b1 f0 f1
        obtain ⟨⟨b0, b1⟩, f0, f1⟩ := box22 hBY.box
        by_cases hkN : k < j
        · obtain ⟨v, c, hv, hc, hrow⟩ := hBY.lists.at_ (i := k) (by rw [HL2.out]; exact hkN)
          have hgood := HG2.out k c hkN hc
          obtain ⟨gl, rfl⟩ : ∃ gl, lp = some ⟨gl, 0, none⟩ := by
            obtain ⟨pp, cap', he, _, _, h3⟩ := ownsRow_slice hBY.lists.row
            simp only [Value.slice.injEq] at he
            obtain ⟨rfl, _, _⟩ := he
            exact h3 (by rw [HL2.out]; omega)
          obtain ⟨pp, cap, rfl, hcap, hcm, hpp⟩ := ownsRow_slice hrow
          have hmx : cap ≤ 9223372036854775807 := by unfold maxLen at hcm; omega
          obtain ⟨cn1, hcn1⟩ : ∃ q, c.1 = q := ⟨_, rfl⟩
          have hcn9 : cn1 ≤ cap := by rw [← hcn1]; exact hcap
          have hfacts : ∀ Z, Keeps (fun _ => False) Y Z → Z.cell? ⟨kb, 0, none⟩ = some (.slice (some ⟨gl, 0, none⟩) j lc) ∧ Z.cell? ⟨gl, k, none⟩ = some (.slice pp cn1 cap) := fun Z hkZ => by
            have hBZ := hBY.next hkZ
            obtain ⟨⟨q0, _⟩, _⟩ := box22 hBZ.box
            have e1 := hBZ.lists.row.cells (g := gl) rfl k _ hv
            rw [add0] at e1
            rw [hcn1] at e1
            exact ⟨q0, e1⟩
          have hcellq : ∀ Z, Keeps (fun _ => False) Y Z → ∀ q, q < cn1 → ∃ g, pp = some ⟨g, 0, none⟩ ∧ Z.cell? ⟨g, q, none⟩ = some (.string (digS k)) := fun Z hkZ q hq => by
            obtain ⟨g, rfl⟩ := hpp (by omega)
            have hr := (hBY.next hkZ).lists.rows k _ _ hv hc
            have := hr.cells (g := g) rfl q _ (hgood q (by omega))
            rw [add0] at this
            exact ⟨g, rfl, this⟩
          have HFA := Lib.hid hfacts
          have HCQ := Lib.hid hcellq
          have HDG := Lib.hid (fun W => digits_any k (by omega) W)
          have hk1 : (k : Int) < (j : Int) := by omega
          clear hv hc hrow hgood hpp hcm hfacts hcellq hBY hcn1 hcap
          go_wp2_with fail
          refine (HDG.out _).mono ?_
          rintro e Y2 ⟨rfl, hkY2⟩
          have HKY2 := Lib.hid hkY2
          clear hkY2
          go_wp2_with fail
          go_loopg [9] cn1 (fun m i Z => ∃ q : Nat, q + m = cn1 ∧ i = .int .i64 q ∧ Keeps (fun _ => False) Y Z)
          case atStart => exact ⟨0, by omega, rfl, HKY2.out⟩
          case round =>
            obtain ⟨Z, hZ⟩ : ∃ X, X = wr := ⟨_, rfl⟩
            subst hZ
            obtain ⟨q, hqm, rfl, hkZ⟩ := hrel
            have HQM := Lib.hid hqm
            have HKZ := Lib.hid hkZ
            have hq0 : (0 : Int) ≤ (q : Int) := Int.natCast_nonneg _
            clear b0 b1 f0 f1
            obtain ⟨b0, d0⟩ := HFA.out Z hkZ
            clear hqm hkZ
            by_cases hqc : q < cn1
            · obtain ⟨g, rfl, a0⟩ := HCQ.out Z HKZ.out q hqc
              have hq1 : (q : Int) < (cn1 : Int) := by omega
              go_wp2_with fail
              go_roundg (gk - 1)
              case measure => have := HQM.out; omega
              case rel => exact ⟨q + 1, by have := HQM.out; omega, by go_num, HKZ.out⟩
            · go_wp2_with fail
              go_roundg (j - (k + 1))
              case measure => have := HKM.out; omega
              case rel => exact ⟨k + 1, by have := HKM.out; omega, by go_num, HKY.out.trans HKZ.out⟩
        · clear hBY
          go_wp2_with fail
          go_ret
          exact ⟨rfl, HKF.out.trans' HKY.out (fun _ h => h.elim)⟩
end Go.Proofs.Ytnphhibfiklfjaa
