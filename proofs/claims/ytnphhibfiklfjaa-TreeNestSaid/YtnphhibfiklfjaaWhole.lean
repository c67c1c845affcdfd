/-
  (*espalierlaw4.Paths).Whole: its walk.
-/
import Derived.Test.YtnphhibfiklfjaaWholeP
import Derived.Test.YtnphhibfiklfjaaTake
set_option linter.unusedVariables false
set_option linter.unusedSimpArgs false
namespace Go.Proofs.Ytnphhibfiklfjaa
open Go.RowKit

theorem wrap_i (i : Nat) (h : i ≤ 1000000) : IntKind.i64.wrap (-2 * (i : Int)) = -2 * (i : Int) ∧ IntKind.i64.wrap (-2 * (i : Int) - 3) = -2 * (i : Int) - 3 ∧ IntKind.i64.wrap (-2 * (i : Int) - 2) = -2 * (i : Int) - 2 := ⟨IntWalk.i64_in _ (by omega), IntWalk.i64_in _ (by omega), IntWalk.i64_in _ (by omega)⟩
theorem roomF_le (n a : Int) : roomF n a ≤ n + 70000 ∧ roomF n a ≤ a := by unfold roomF; split <;> omega
set_option maxRecDepth 100000 in
set_option maxHeartbeats 6400000 in
theorem Whole_any (D pb : Nat) (L : List PRow) (sz : Int) (lv nv : Value) (w : World) (h : PathsAt D w pb L sz lv nv) (hpb : pb < D) (hDw : D ≤ w.heap.size) (hL : L.length ≤ 1000000) (hn : ∀ r ∈ L, r.n ≤ 1000) :
    Calls Try.prog 19 #[.pointer (some ⟨pb, 0, none⟩)] w fun e w' => e = .returned (.bool true) ∧ Keeps (fun b => D ≤ b) w w' := by
  obtain ⟨b0, b1, b2, f0, f1, f2⟩ := boxP h.box
  have b3 : w.cell? ⟨pb, 3, none⟩ = some (.slice none 0 0) := by simp [World.cell?, h.box]
  have hT := Take_none pb 0 none w
  have hstart := Lib.hid (WH.start h)
  clear h
  go_enter Try.func19, Try.ntmps19
  go_wp2_with fail
  refine hT.mono ?_
  clear hT
  rintro e W ⟨⟨v0, rfl⟩, rfl⟩
  go_wp2_with fail
  go_loopg [3] L.length (fun m i W => ∃ j : Nat, j + m = L.length ∧ i = .int .i64 j ∧ ∃ vs cs, WH D pb W L sz lv nv vs cs ∧ Keeps (fun b => D ≤ b) w W)
  case atStart => exact ⟨0, by omega, rfl, _, _, hstart.out, Keeps.refl _ _⟩
  case round =>
    obtain ⟨j, hjm, rfl, vs, cs, hW, hkw⟩ := hrel
    have HJ := Lib.hid hjm
    have HW := Lib.hid hW
    have HKW := Lib.hid hkw
    clear hjm hkw b0 b1 b2 b3 f0 f1 f2
    obtain ⟨b0, b1, b2, f0, f1, f2⟩ := boxP hW.box
    obtain ⟨V, hV⟩ : ∃ V, V = wr := ⟨_, rfl⟩
    subst hV
    by_cases hlt : j < L.length
    · obtain ⟨r, hr⟩ : ∃ r, L[j]? = some r := ⟨_, List.getElem?_eq_getElem hlt⟩
      obtain ⟨v, c, hv, hc, hrow⟩ := hW.lists.at_ (i := j) (by rw [hW.vlen]; exact hlt)
      obtain ⟨gl, cl, hlv, _, hgl⟩ := hW.lists.row.form (by rw [hW.vlen]; omega)
      rw [hW.vlen] at hlv
      subst hlv
      obtain ⟨gn, cn, hnv, _, _⟩ := hW.lens.form (by omega)
      subst hnv
      obtain ⟨pp, cap, rfl, hcap, hcm, hpp⟩ := ownsRow_slice hrow
      have hrn := hn r (List.mem_of_getElem? hr)
      have hmx : cap ≤ 9223372036854775807 := by unfold maxLen at hcm; omega
      have hrl := hW.lists.row
      rw [hW.vlen] at hrl
      have d0 : V.cell? ⟨gl, j, none⟩ = some (.slice pp c.1 cap) := (hrl.cellAt _ (by omega)).trans hv
      have d1 : V.cell? ⟨gn, j, none⟩ = some (.int .i64 (r.n : Int)) := (hW.lens.cellAt _ (by omega)).trans (by rw [List.getElem?_map, hr]; rfl)
      obtain ⟨rn, hrm⟩ : ∃ rn, roomF r.n cap = rn := ⟨_, rfl⟩
      have hR : Hid (∀ W, Calls Try.prog 45 #[.int .i64 (r.n : Int), .int .i64 (cap : Int)] W fun e w' => e = .returned (.int .i64 rn) ∧ w' = W) := Lib.hid fun W => (Room_any r.n cap (by omega) (by omega) W).mono fun _ _ ⟨a, b⟩ => ⟨by rw [a, hrm], b.symm⟩
      have hrn1 : rn ≤ 71000 := by have := roomF_le r.n cap; omega
      have hj1 : (j : Int) < (L.length : Int) := by omega
      have hj0 : (0 : Int) ≤ (j : Int) := Int.natCast_nonneg _
      have hlm : (L.length : Int) ≤ 1000000 := by omega
      have HR := Lib.hid hr
      have HC := Lib.hid hc
      clear hrl hv hc hrow hr hcm hpp hrm hW hgl
      go_wp2_with fail
      go_still_tail 15, (by kernel_rfl)
      change wpList _ _ _ _ _ V.drew
      obtain ⟨V1, hV1⟩ : ∃ V1, V1 = V.drew := ⟨_, rfl⟩
      have hk1 : Keeps (fun _ => False) V V1 := by rw [hV1]; exact (Keeps.refl _ V).drew
      have HW1 := Lib.hid (HW.out.keeps hk1 (fun h => h) (fun _ h => h.elim))
      rw [← hV1]
      have HK1 := Lib.hid (HKW.out.trans' hk1 (fun _ h => h.elim))
      clear hV1 hk1 b0 b1 b2 f0 f1 f2 d0 d1
      go_wp2_with fail
      refine (hR.out _).mono ?_
      rintro e V1 ⟨rfl, rfl⟩
      go_wp2_with fail
      go_loopg [] (rn.toNat - c.1) (fun m W => ∃ vs cs c, WH D pb W L sz (.slice (some ⟨gl, 0, none⟩) L.length cl) (.slice (some ⟨gn, 0, none⟩) L.length cn) vs cs ∧ cs[j]? = some c ∧ m = rn.toNat - c.1 ∧ Keeps (fun b => D ≤ b) V1 W)
      case atStart => exact ⟨vs, cs, c, HW1.out, HC.out, rfl, Keeps.refl _ _⟩
      case round =>
        obtain ⟨vs, cs, c, hW, hc, hm, hk⟩ := hrel
        have HM := Lib.hid hm
        have HW2 := Lib.hid hW
        have HK2 := Lib.hid hk
        have HC2 := Lib.hid hc
        clear hm hk
        obtain ⟨b0, b1, b2, f0, f1, f2⟩ := boxP hW.box
        obtain ⟨V2, hV2⟩ : ∃ V2, V2 = wr := ⟨_, rfl⟩
        subst hV2
        obtain ⟨v, c', hv, hc', hrow⟩ := hW.lists.at_ (i := j) (by rw [hW.vlen]; exact hlt)
        obtain rfl : c = c' := by rw [hc] at hc'; simpa using hc'
        obtain ⟨pp, cap, rfl, hcap, hcm, hpp⟩ := ownsRow_slice hrow
        have hrl := hW.lists.row
        rw [hW.vlen] at hrl
        have d0 : V2.cell? ⟨gl, j, none⟩ = some (.slice pp c.1 cap) := (hrl.cellAt _ (by omega)).trans hv
        have d1 : V2.frozen? ⟨gl, j, none⟩ = false := by
          obtain ⟨_, cur, hh⟩ := ownsRow_blk hrl rfl
          simp [World.frozen?, hh]
        have hmx : cap ≤ 9223372036854775807 := by unfold maxLen at hcm; omega
        have HROW := Lib.hid hrow
        have HV := Lib.hid hv
        clear hc hc' hrow hv hcm hpp hrl hW
        by_cases hlt2 : (c.1 : Int) < rn
        · obtain ⟨i1, hi1, hy0, hy1, hy2⟩ := info_parts Try.intInfo'
          obtain ⟨hw1, hw2, _⟩ := wrap_i j (by omega)
          have hglD := (HW2.out.lists.row.lt gl rfl)
          have hDV : D ≤ V2.heap.size := by omega
          have hvb : ∀ g, (Value.slice pp c.1 cap).ownBlock = some g → D ≤ g ∧ gl ≠ g := fun g hg => ⟨(HROW.out.lt g hg).1, fun e => HW2.out.lists.ne_row (by decide) HV.out hg (by rw [e]; rfl)⟩
          have hpV := hglD.2
          have hnlg : (Value.slice pp c.1 cap).ownBlock ≠ some gl := fun e => (hvb gl e).2 rfl
          have hnpb : (Value.slice pp c.1 cap).ownBlock ≠ some pb := fun e => by have := (hvb pb e).1; omega
          have hpbV := heap_lt HW2.out.box
          have hrow0 := HROW.out
          have HVB := Lib.hid hvb
          clear hvb
          go_wp2_with fail
          go_region_law ((refine step_append_lies _ (by rfl) _ _ _ (by rfl) D 3 i1 _ 1 8 Try.underlying32 hi1 hy0 hy1 hy2 rfl (by omega) (.slice pp c.1 cap) c.1 c.2 (by rfl) (by first | exact (hrow0.alloc _).drew | exact World.ownsRow.alloc hrow0.drew _) ⟨V2.heap.size, 0, none⟩ 1 1 [mkG j] (by rfl) (by rfl) (World.news_of_block (cs := #[mkG j]) (t := 3) (fr := (0, 0)) (heap_alloc_new V2 _)) (by simp [Value.oneCell']) (by omega) (by simp only [maxLen]; omega) (by omega) (by simp; omega) (V2.heap.size + 1) (by simp) ?_; intro g1 c1 w1 hown1 hgrow1 hat1 hlt1; have hl1 : w1.cell? ⟨gl, j, none⟩ = some (.slice pp c.1 cap) := (hgrow1.cell_far ⟨gl, j, none⟩ (by simp; omega) (Ne.symm hnlg)).trans ((World.cell?_alloc_past _ _ _ hpV).trans d0); have hf1 : w1.frozen? ⟨gl, j, none⟩ = false := (hgrow1.frozen_far ⟨gl, j, none⟩ (by simp; omega) (Ne.symm hnlg)).trans ((World.frozen?_alloc_past _ _ _ hpV).trans d1); have hb1 : w1.cell? ⟨pb, 0, none⟩ = some (.slice (some ⟨gl, 0, none⟩) L.length cl) := (hgrow1.cell_far ⟨pb, 0, none⟩ (by simp; omega) (Ne.symm hnpb)).trans ((World.cell?_alloc_past _ _ _ hpbV).trans b0)))
          all_goals go_wp2_with fail
          all_goals
            obtain ⟨q1, q2⟩ := HW2.out.push hpb rfl HV.out HC2.out HR.out (show (V2.alloc (.cells #[mkG j] 3)).grownBy w1 (Value.slice pp c.1 cap).ownBlock from ⟨hgrow1.os, hgrow1.tape, hgrow1.output, hgrow1.size, hgrow1.block⟩) hown1 (hat1.imp_right (fun h => by omega))
            go_roundg (rn.toNat - (c.1 + 1))
            case measure => have := HM.out; omega
            case rel => exact ⟨_, _, _, q1, List.getElem?_set_self (List.getElem?_eq_some_iff.1 HC2.out).1, rfl, HK2.out.trans q2⟩
        · go_wp2_with fail
          go_roundg (L.length - (j + 1))
          case measure => have := HJ.out; omega
          case rel => exact ⟨j + 1, by omega, by go_num, vs, cs, HW2.out, HK1.out.trans HK2.out⟩
    · have hlv : ∃ gl cl, 0 < L.length → lv = .slice (some ⟨gl, 0, none⟩) L.length cl := by
        by_cases h0 : 0 < L.length
        · obtain ⟨gl, cl, hlv, _, _⟩ := hW.lists.row.form (by rw [hW.vlen]; omega)
          rw [hW.vlen] at hlv
          exact ⟨gl, cl, fun _ => hlv⟩
        · exact ⟨0, 0, fun h => absurd h h0⟩
      have hlen : ∃ lp lc, lv = .slice lp L.length lc := by
        obtain ⟨lp, lc, h1, _⟩ := ownsRow_slice hW.lists.row
        rw [hW.vlen] at h1
        exact ⟨lp, lc, h1⟩
      obtain ⟨lp, lc, rfl⟩ := hlen
      have hlm : (L.length : Int) ≤ 1000000 := by omega
      clear hW
      go_wp2_with fail
      go_loopg [5] L.length (fun m i W => W = V ∧ ∃ j : Nat, j + m = L.length ∧ i = .int .i64 j)
      case atStart => exact ⟨rfl, 0, by omega, rfl⟩
      case round =>
        obtain ⟨rfl, k, hkm, rfl⟩ := hrel
        have HKM := Lib.hid hkm
        clear hkm
        by_cases hkl : k < L.length
        · have hW := HW.out
          obtain ⟨r, hr⟩ : ∃ r, L[k]? = some r := ⟨_, List.getElem?_eq_getElem hkl⟩
          obtain ⟨v, c, hv, hc, hrow⟩ := hW.lists.at_ (i := k) (by rw [hW.vlen]; exact hkl)
          obtain ⟨gl, cl, hlv⟩ := hlv
          have hlv := hlv (by omega)
          simp only [Value.slice.injEq, true_and] at hlv
          obtain ⟨rfl, rfl⟩ := hlv
          obtain ⟨gn, cn, hnv, _, _⟩ := hW.lens.form (by omega)
          subst hnv
          obtain ⟨pp, cap, rfl, hcap, hcm, hpp⟩ := ownsRow_slice hrow
          have hrn := hn r (List.mem_of_getElem? hr)
          have hmx : cap ≤ 9223372036854775807 := by unfold maxLen at hcm; omega
          have hrl := hW.lists.row
          rw [hW.vlen] at hrl
          have d0 : wr.cell? ⟨gl, k, none⟩ = some (.slice pp c.1 cap) := (hrl.cellAt _ (by omega)).trans hv
          have d1 : wr.cell? ⟨gn, k, none⟩ = some (.int .i64 (r.n : Int)) := (hW.lens.cellAt _ (by omega)).trans (by rw [List.getElem?_map, hr]; rfl)
          obtain ⟨hg1, hg2⟩ := hW.good k r c hr hc
          rw [hg2] at hrow
          have hk1 : (k : Int) < (L.length : Int) := by omega
          have hk0 : (0 : Int) ≤ (k : Int) := Int.natCast_nonneg _
          obtain ⟨hw1, hw2, hw3⟩ := wrap_i k (by omega)
          have HROW := Lib.hid hrow
          have HPP := Lib.hid hpp
          clear hr hv hc hrow hrl hg2 hpp hW hcm
          go_wp2_with fail
          go_loopg [6] c.1 (fun m i W => W = wr ∧ ∃ j : Nat, j + m = c.1 ∧ i = .int .i64 j)
          case atStart => exact ⟨rfl, 0, by omega, rfl⟩
          case round =>
            obtain ⟨rfl, q, hqm, rfl⟩ := hrel
            have HQ := Lib.hid hqm
            clear hqm
            by_cases hq : q < c.1
            · obtain ⟨g, rfl⟩ := HPP.out (by omega)
              have hq1 : (q : Int) < (c.1 : Int) := by omega
              have hq0 : (0 : Int) ≤ (q : Int) := Int.natCast_nonneg _
              have hcell := HROW.out.cellAt q (by omega)
              by_cases hqn : q < r.n
              · rw [conts_low hqn] at hcell
                have hqn' : decide ((r.n : Int) ≤ (q : Int)) = false := by simp; omega
                go_wp2_with fail
                go_roundg (gk - 1)
                case measure => have := HQ.out; omega
                case rel => exact ⟨rfl, q + 1, by have := HQ.out; omega, by go_num⟩
              · rw [conts_high (by omega) hq] at hcell
                have hqn' : decide ((r.n : Int) ≤ (q : Int)) = true := by simp; omega
                go_wp2_with fail
                go_roundg (gk - 1)
                case measure => have := HQ.out; omega
                case rel => exact ⟨rfl, q + 1, by have := HQ.out; omega, by go_num⟩
            · go_wp2_with fail
              go_roundg (L.length - (k + 1))
              case measure => have := HKM.out; omega
              case rel => exact ⟨rfl, k + 1, by omega, by go_num⟩
        · go_wp2_with fail
          go_ret
          exact ⟨rfl, HKW.out⟩
end Go.Proofs.Ytnphhibfiklfjaa
