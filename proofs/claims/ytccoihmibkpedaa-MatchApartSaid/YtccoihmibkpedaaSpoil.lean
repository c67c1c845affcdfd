/-
  espalierlaw24.spoil: its walk: what it writes over are the lists of the tree's own memory.
-/
import Derived.Test.YtccoihmibkpedaaPkD

import Derived.Test.YtccoihmibkpedaaPut

import Derived.BigRegion

set_option linter.unusedVariables false

set_option linter.unusedSimpArgs false

namespace Go.Proofs.Ytccoihmibkpedaa

open Go.RowKit

abbrev kSpoilt : ByteArray := ⟨#[115, 112, 111, 105, 108, 116, 46, 107, 105, 100]⟩
abbrev kGrown : ByteArray := ⟨#[103, 114, 111, 119, 110, 46, 107, 105, 100]⟩
theorem ownsRow_setAny {W : World} {e s n : Nat} {v : Value} {xs : List Value} (h : W.ownsRow 0 e s v n xs) (b i : Nat) (u : Value) : ∃ xs', (W.setCell ⟨b, i, none⟩ u).ownsRow 0 e s v n xs' := by
  rcases h.2 with ⟨h1, h2⟩ | ⟨g, cap, cur, rfl, hg, hh, h1, h2, h3, h4⟩
  · exact ⟨xs, h.1, .inl ⟨h1, h2⟩⟩
  · by_cases hb : g = b
    · subst hb
      refine ⟨(cur.setIfInBounds i u).toList.take (n * s), ?_, .inr ⟨g, cap, _, rfl, hg, heap_set hh _ _, h1, h2, by simpa using h3, rfl⟩⟩
      rw [List.length_take]
      have : n * s ≤ cap * s := Nat.mul_le_mul_right _ h1
      simp only [Array.length_toList, Array.size_setIfInBounds]
      omega
    · refine ⟨xs, h.1, .inr ⟨g, cap, cur, rfl, hg, ?_, h1, h2, h3, h4⟩⟩
      rw [← hh]
      exact ((Keeps.refl (fun x => x = b) W).setCell (p := ⟨b, i, none⟩) (fun _ => rfl) _).block g (heap_lt hh) hb
theorem ownsRow_anyCell {W : World} {e s n g cap : Nat} {xs : List Value} (h : W.ownsRow 0 e s (.slice (some ⟨g, 0, none⟩) n cap) n xs) : n ≤ cap ∧ (∀ i, i < n * s → ∃ v, W.cell? ⟨g, i, none⟩ = some v) ∧ ∀ i, W.frozen? ⟨g, i, none⟩ = false := by
  rcases h.2 with ⟨h1, h2⟩ | ⟨g', cap', cur, h0, hg, hh, h1, h2, h3, h4⟩
  · simp at h1
  · simp only [Value.slice.injEq, Option.some.injEq, Addr.mk.injEq, and_true, true_and] at h0
    obtain ⟨rfl, rfl⟩ := h0
    refine ⟨h1, fun i hi => ?_, fun i => by simp [World.frozen?, hh]⟩
    have hm : n * s ≤ cap * s := Nat.mul_le_mul_right _ h1
    have hi2 : i < cur.size := by omega
    exact ⟨cur[i], by simp [World.cell?, hh, hi2]⟩
theorem ownsRow_caps {W : World} {e s n : Nat} {cp : Option Addr} {cl cc : Nat} {xs : List Value} (h : W.ownsRow 0 e s (.slice cp cl cc) n xs) : cl = n ∧ cl ≤ cc ∧ cc ≤ 9223372036854775807 ∧ (0 < cl → ∃ g, cp = some ⟨g, 0, none⟩) := by
  rcases h.2 with ⟨h1, h2⟩ | ⟨g', cap', cur, h0, hg, hh, h1, h2, h3, h4⟩
  · simp only [Value.slice.injEq] at h1
    obtain ⟨rfl, rfl, rfl⟩ := h1
    exact ⟨h2.symm, Nat.le_refl _, by omega, fun h => by omega⟩
  · simp only [Value.slice.injEq] at h0
    obtain ⟨rfl, rfl, rfl⟩ := h0
    unfold maxLen at h2
    exact ⟨rfl, h1, h2, fun _ => ⟨g', rfl⟩⟩
theorem ownsRow_cellAt {W : World} {e s n g cap : Nat} {xs : List Value} (h : W.ownsRow 0 e s (.slice (some ⟨g, 0, none⟩) n cap) n xs) {i : Nat} {v : Value} (hv : xs[i]? = some v) : W.cell? ⟨g, i, none⟩ = some v := by
  rcases h.2 with ⟨h1, h2⟩ | ⟨g', cap', cur, h0, hg, hh, h1, h2, h3, h4⟩
  · simp at h1
  · simp only [Value.slice.injEq, Option.some.injEq, Addr.mk.injEq, and_true, true_and] at h0
    obtain ⟨rfl, rfl⟩ := h0
    have h7 : cur.toList[i]? = some v := by
      rw [← h4, List.getElem?_take] at hv
      split at hv
      · exact hv
      · simp at hv
    simp only [World.cell?, hh]
    simpa using h7
set_option maxRecDepth 100000 in
set_option maxHeartbeats 3200000 in
theorem spoil_any : ∀ (N : Nat), N ≤ 100000 → ∀ (k : ByteArray) (n : Int) (t : ByteArray) (c : Fo) (cp : Option Addr) (cl cc : Nat) (bs : List Nat) (w : World), c.nodes < N → Own w c cp cl cc bs → bs.Nodup →
   Calls Try.prog 18 #[tv k n t cp cl cc] w fun e w' => e = .returned (.tuple #[]) ∧ Keeps (fun b => b ∈ bs) w w' := by
  intro N
  induction N with
  | zero => intros; omega
  | succ N ih =>
    intro hN1 k n t c cp cl cc bs w hN hO hnd
    obtain ⟨i0, hi0, hz0, hz1, hz2⟩ := info_parts Try.treeInfo
    obtain ⟨ys, bs1, hrow, hrep, rfl⟩ := hO
    obtain ⟨W1, hW1⟩ : ∃ W1, W1 = w.alloc (.cells (four k n t cp cl cc) T) := ⟨_, rfl⟩
    have hK : Keeps (fun _ => False) w W1 := by rw [hW1]; exact (Keeps.refl _ w).alloc _
    have hb1 : W1.heap[w.heap.size]? = some (.cells (four k n t cp cl cc) T (0, 0)) := by rw [hW1]; exact heap_alloc_new _ _
    have hcp := ownsRow_caps hrow
    obtain ⟨hcl, hlc, hcm, had⟩ := hcp
    have hlow : ∀ b ∈ sb cp cl cc ++ bs1, b < w.heap.size := fun b hb => by
      rcases List.mem_append.1 hb with hb | hb
      · obtain ⟨_, cur, h⟩ := ownsRow_blk hrow (b := b) (by simpa using hb)
        exact heap_lt h
      · obtain ⟨cur, h⟩ := hrep.shape b hb
        exact heap_lt h
    have hcn : cl ≤ 100000 := by have h1 := Fo.len_nodes c; omega
    obtain ⟨c0, c1, c2, c3, _⟩ := box4 hb1
    have hrow1 : W1.ownsRow 0 T 4 (.slice cp cl cc) cl ys := by
      have h0 : w.ownsRow 0 T 4 (.slice cp cl cc) cl ys := by have h1 := hrow; rw [← hcl] at h1; exact h1
      exact ownsRow_same h0 (fun b hb => hK.block b (hlow b (List.mem_append.2 (.inl hb))) (fun h => h))
    have hrep1 : RowRep W1 c ys bs1 := hrep.same (fun b hb => hK.block b (hlow b (List.mem_append.2 (.inr hb))) (fun h => h))
    have HI := Lib.hid ih
    have HN := Lib.hid hN
    have HCL := Lib.hid hcl
    have HW := Lib.hid hW1
    have HB := Lib.hid hb1
    have HROW := Lib.hid hrow1
    have HREP := Lib.hid hrep1
    have HND := Lib.hid hnd
    have HLOW := Lib.hid hlow
    have HAD := Lib.hid had
    have hyl : Hid (ys.length = cl * 4) := by show _ = _; rw [hrow.1, hcl]
    clear ih hN hcl hW1 hb1 hrow1 hrep1 hrow hrep hnd hlow had
    go_enter Try.func18, Try.ntmps18
    go_upto_region 1 with fail
    rw [← HW.out]
    go_wp2_with fail
    go_loopg [2] cl (fun m i W => ∃ j : Nat, j + m = cl ∧ i = .int .i64 j ∧ (∃ bs0 bs', bs1 = bs0 ++ bs' ∧ RowRep W (c.drop j) (ys.drop (j * 4)) bs') ∧ Keeps (fun b => b ∈ bs1) W1 W)
    case atStart => exact ⟨0, by omega, rfl, ⟨[], bs1, rfl, by rw [show Fo.drop 0 c = c by cases c <;> rfl]; simpa using HREP.out⟩, Keeps.refl _ _⟩
    case round =>
      obtain ⟨j, hjm, rfl, ⟨bs0, bs', hbs, hrp⟩, hk⟩ := hrel
      have hnd2 := (List.nodup_append.1 HND.out).2.1
      have hnb : w.heap.size ∉ bs1 := fun h => by have := HLOW.out _ (List.mem_append.2 (.inr h)); omega
      have hbx := (hk.block _ (heap_lt HB.out) hnb).trans HB.out
      obtain ⟨c0, c1, c2, c3, _⟩ := box4 hbx
      have HJ := Lib.hid hjm
      have HK := Lib.hid hk
      have hj0 : (0 : Int) ≤ (j : Int) := Int.natCast_nonneg _
      clear hjm hnb hbx
      by_cases hlt : j < cl
      · obtain ⟨g, rfl⟩ := HAD.out (by omega)
        have hgn : g ∉ bs1 := fun h => (List.nodup_append.1 HND.out).2.2 g (by simp [Value.ownBlock]) g h rfl
        have hrj : wr.ownsRow 0 T 4 (.slice (some ⟨g, 0, none⟩) cl cc) cl ys := ownsRow_same HROW.out (fun b hb => by
          have hbg : b = g := by simpa [Value.ownBlock] using hb
          subst hbg
          have := HLOW.out b (List.mem_append.2 (.inl (by simp [Value.ownBlock])))
          exact hk.block b (Nat.lt_of_lt_of_le this hK.size) hgn)
        obtain ⟨k1, n1, t1, s1, r1, hdr⟩ := Fo.drop_lt j c (by rw [← HCL.out]; exact hlt)
        rw [hdr] at hrp
        obtain ⟨cp1, cl1, cc1, ys1, bsa, ys2, bsb, hy, hbb, hsz, hrowk, hrepk, hrest⟩ := hrp
        have hcells : ∀ d v, (ys.drop (j * 4))[d]? = some v → wr.cell? ⟨g, j * 4 + d, none⟩ = some v := fun d v hd => ownsRow_cellAt hrj (by rwa [List.getElem?_drop] at hd)
        rw [hy] at hcells
        have a0 : wr.cell? ⟨g, j * 4, none⟩ = some (.string k1) := hcells 0 _ rfl
        have a1 : wr.cell? ⟨g, j * 4 + 1, none⟩ = some (.int .i64 n1) := hcells 1 _ rfl
        have a2 : wr.cell? ⟨g, j * 4 + 2, none⟩ = some (.string t1) := hcells 2 _ rfl
        have a3 : wr.cell? ⟨g, j * 4 + 3, none⟩ = some (.slice cp1 cl1 cc1) := hcells 3 _ rfl
        have hndk : (sb cp1 cl1 cc1 ++ bsa ++ bsb).Nodup := by
          rw [hbs, hbb] at hnd2
          exact (List.nodup_append.1 hnd2).2.1
        have hz := HI.out (by omega) k1 n1 t1 s1 cp1 cl1 cc1 (sb cp1 cl1 cc1 ++ bsa) wr (by have := Tv.kidNodes hdr; have := HN.out; omega) ⟨ys1, bsa, hrowk, hrepk, rfl⟩ (List.nodup_append.1 hndk).1
        have hi1 : (j : Int) < (cl : Int) := by omega
        have hnext : Hid (∀ W2, Keeps (fun b => b ∈ sb cp1 cl1 cc1 ++ bsa) wr W2 → (∃ bs0 bs', bs1 = bs0 ++ bs' ∧ RowRep W2 (c.drop (j + 1)) (ys.drop ((j + 1) * 4)) bs') ∧ Keeps (fun b => b ∈ bs1) W1 W2) := Lib.hid fun W2 hk2 => by
          refine ⟨⟨bs0 ++ (sb cp1 cl1 cc1 ++ bsa), bsb, by rw [hbs, hbb]; simp only [List.append_assoc], ?_⟩, ?_⟩
          · have e1 : c.drop (j + 1) = r1 := Fo.drop_step hdr
            have e2 : ys.drop ((j + 1) * 4) = ys2 := by
              have : ys.drop ((j + 1) * 4) = (ys.drop (j * 4)).drop 4 := by rw [List.drop_drop]; congr 1; omega
              rw [this, hy]
              rfl
            rw [e1, e2]
            refine hrest.same fun b hb => ?_
            obtain ⟨cur, hh⟩ := hrest.shape b hb
            exact hk2.block b (heap_lt hh) (fun h => (List.nodup_append.1 hndk).2.2 b h b hb rfl)
          · exact HK.out.trans' hk2 (fun b hb _ => by rw [hbs, hbb]; exact List.mem_append.2 (.inr (List.mem_append.2 (.inl hb))))
        clear hrowk hrepk hrest hndk hnd2 hcells hy hbb hbs hsz hdr hrj hgn hk
        go_wp2_with fail
        refine hz.mono ?_
        clear hz a0 a1 a2 a3 c0 c1 c2 c3
        rintro e W2 ⟨rfl, hk2⟩
        go_wp2_with fail
        go_roundg (gk - 1)
        case measure => have := HJ.out; omega
        case rel => exact ⟨j + 1, by have := HJ.out; omega, by go_num, (hnext.out _ hk2).1, (hnext.out _ hk2).2⟩
      · clear hrp hbs hnd2
        obtain ⟨w2, hw2⟩ : ∃ X, X = wr := ⟨_, rfl⟩
        subst hw2
        have hst : Hid (Keeps (fun b => b ∈ sb cp cl cc ++ bs1) W1 w2 ∧ ∃ xs, w2.ownsRow 0 T 4 (.slice cp cl cc) cl xs) := by
          refine Lib.hid ⟨HK.out.mono (fun b hb _ => List.mem_append.2 (.inr hb)), ys, ownsRow_same HROW.out fun b hb => ?_⟩
          have h1 := HLOW.out b (List.mem_append.2 (.inl hb))
          exact HK.out.block b (Nat.lt_of_lt_of_le h1 hK.size) (fun h => (List.nodup_append.1 HND.out).2.2 b hb b h rfl)
        have HNB : Hid (w.heap.size ∉ sb cp cl cc ++ bs1) := Lib.hid fun h => by have := HLOW.out _ h; omega
        clear hk hj0
        go_wp2_with fail
        go_loopg [3] cl (fun m i W => ∃ j : Nat, j + m = cl ∧ i = .int .i64 j ∧ Keeps (fun b => b ∈ sb cp cl cc ++ bs1) W1 W ∧ ∃ xs, W.ownsRow 0 T 4 (.slice cp cl cc) cl xs)
        case atStart => exact ⟨0, by omega, rfl, hst.out.1, hst.out.2⟩
        case round =>
          obtain ⟨w3, hw3⟩ : ∃ X, X = wr := ⟨_, rfl⟩
          subst hw3
          obtain ⟨j2, hjm2, rfl, hk2, xs2, hr2⟩ := hrel
          have hbx := (hk2.block _ (heap_lt HB.out) HNB.out).trans HB.out
          obtain ⟨c0, c1, c2, c3, _⟩ := box4 hbx
          have HJ2 := Lib.hid hjm2
          have HK2 := Lib.hid hk2
          have HR2 := Lib.hid hr2
          have hj0 : (0 : Int) ≤ (j2 : Int) := Int.natCast_nonneg _
          clear hjm2 hbx hk2
          by_cases hlt2 : j2 < cl
          · obtain ⟨g, rfl⟩ := HAD.out (by omega)
            obtain ⟨_, hce, hfz⟩ := ownsRow_anyCell hr2
            obtain ⟨v0, a0⟩ := hce (j2 * 4) (by omega)
            obtain ⟨v1, a1⟩ := hce (j2 * 4 + 1) (by omega)
            obtain ⟨v2, a2⟩ := hce (j2 * 4 + 2) (by omega)
            obtain ⟨v3, a3⟩ := hce (j2 * 4 + 3) (by omega)
            have f0 := hfz (j2 * 4)
            have f1 := hfz (j2 * 4 + 1)
            have f2 := hfz (j2 * 4 + 2)
            have f3 := hfz (j2 * 4 + 3)
            have hi1 : (j2 : Int) < (cl : Int) := by omega
            clear hce hfz hr2
            go_wp2_with fail
            go_roundg (gk - 1)
            case measure => have := HJ2.out; omega
            case rel =>
              obtain ⟨x1, r1⟩ := ownsRow_setAny HR2.out g (j2 * 4) (.string kSpoilt)
              obtain ⟨x2, r2⟩ := ownsRow_setAny r1 g (j2 * 4 + 1) (.int .i64 0)
              obtain ⟨x3, r3⟩ := ownsRow_setAny r2 g (j2 * 4 + 2) (.string e0)
              obtain ⟨x4, r4⟩ := ownsRow_setAny r3 g (j2 * 4 + 3) (.slice none 0 0)
              have hg : ∀ i : Nat, ((⟨g, i, none⟩ : Addr).block < W1.heap.size → (⟨g, i, none⟩ : Addr).block ∈ sb (some ⟨g, 0, none⟩) cl cc ++ bs1) := fun i _ => by simp [Value.ownBlock]
              exact ⟨j2 + 1, by have := HJ2.out; omega, by go_num, (((HK2.out.setCell (hg _) _).setCell (hg _) _).setCell (hg _) _).setCell (hg _) _, x4, r4⟩
          · obtain ⟨w5, hw5⟩ : ∃ X, X = w3 := ⟨_, rfl⟩
            subst hw5
            clear hr2 hj0
            go_upto_region 9 with fail
            go_cut [4, 5] from 41 (fun v4 v5 W => v4 = .slice cp cl cc ∧ (∃ n0 : Nat, v5 = .int .i64 n0 ∧ cl ≤ n0 ∧ n0 ≤ cl + 3000) ∧ Keeps (fun _ => False) w5 W)
            case first =>
              have hk : Keeps (fun _ => False) w5 w5 := Keeps.refl _ _
              have hcc0 : (cl : Int) ≤ (cc : Int) := by omega
              have hcl0 : (cl : Int) ≤ 100000 := by omega
              by_cases hm : (cc : Int) ≤ (cl : Int) + 3000
              · go_region
                all_goals
                  go_wp2_with fail
                  go_meet
                  case rel => exact ⟨rfl, ⟨cc, by first | rfl | simp [hm] | (simp; omega), by omega, by omega⟩, by repeat' (first | exact hk | refine Keeps.drew ?_)⟩
              · go_region
                all_goals
                  go_wp2_with fail
                  go_meet
                  case rel => exact ⟨rfl, ⟨cl + 3000, by first | go_num | (simp [hm]; done) | (simp; omega), by omega, by omega⟩, by repeat' (first | exact hk | refine Keeps.drew ?_)⟩
            case rest =>
              obtain ⟨w6, hw6⟩ : ∃ X, X = wc := ⟨_, rfl⟩
              subst hw6
              obtain ⟨rfl, ⟨n0, rfl, hn1, hn2⟩, hk6⟩ := hcut
              have hk56 := (hK.mono (S' := fun b => b ∈ sb cp cl cc ++ bs1) (fun _ h _ => h.elim)).trans (HK2.out.trans (hk6.mono (S' := fun b => b ∈ sb cp cl cc ++ bs1) (fun _ h _ => h.elim)))
              obtain ⟨xs6, hr6⟩ : ∃ xs, w6.ownsRow 0 T 4 (.slice cp cl cc) cl xs := ⟨_, ownsRow_same HR2.out fun b hb => hk6.block b (by obtain ⟨_, cur, h⟩ := ownsRow_blk HR2.out (b := b) (by simpa using hb); exact heap_lt h) (fun h => h)⟩
              have HKF := Lib.hid hk56
              have HR6 := Lib.hid hr6
              clear hk56 hr6 hk6 c0 c1 c2 c3
              go_wp2_with fail
              go_loopg [4] (n0 - cl) (fun m v W => ∃ vp vl vc xs, v = .slice vp vl vc ∧ W.ownsRow 0 T 4 (.slice vp vl vc) vl xs ∧ vl + m = n0 ∧ (∀ b, (Value.slice vp vl vc).ownBlock = some b → b ∈ sb cp cl cc ∨ w.heap.size ≤ b) ∧ Keeps (fun b => b ∈ sb cp cl cc ++ bs1) w W)
              case atStart => exact ⟨cp, cl, cc, xs6, rfl, HR6.out, by omega, fun b hb => .inl (by simpa using hb), HKF.out⟩
              case round =>
                obtain ⟨w7, hw7⟩ : ∃ X, X = wr := ⟨_, rfl⟩
                subst hw7
                obtain ⟨vp, vl, vc, xs, rfl, hr, hvm, hvb, hk7⟩ := hrel
                have HVM := Lib.hid hvm
                have HVB := Lib.hid hvb
                have HK7 := Lib.hid hk7
                have HR7 := Lib.hid hr
                have hj : vl + 1 ≤ maxLen := by unfold maxLen; omega
                have hvl : vl ≤ 103000 := by omega
                clear hvm hvb hk7
                by_cases hlt3 : vl < n0
                · have hi1 : (vl : Int) < (n0 : Int) := by omega
                  go_wp2_with (at_builtin; refine wpList_append_lies _ rfl _ _ _ rfl 0 T i0 _ 4 64 Try.underlying24 hi0 hz0 hz1 hz2 rfl (by decide) (.slice vp vl vc) vl xs rfl (hr.alloc _) ⟨w7.heap.size, 0, none⟩ 1 1 [.string kGrown, .int .i64 0, .string e0, .slice none 0 0] rfl rfl (World.news_of_block (cs := #[.string kGrown, .int .i64 0, .string e0, .slice none 0 0]) (t := T) (fr := (0, 0)) (heap_alloc_new w7 _)) (by simp [Value.oneCell']) (by omega) hj (by omega) (by omega) (w7.heap.size + 1) (by simp) ?_; intro gg cap w8 hown3 hgrow3 hat3 hlt8)
                  go_roundg (gk - 1)
                  case measure => have := HVM.out; omega
                  case rel =>
                    have hg := ((HK7.out).alloc (.cells #[.string kGrown, .int .i64 0, .string e0, .slice none 0 0] T)).grown hgrow3 (fun b hb hl => by
                      rcases HVB.out b hb with h | h
                      · exact List.mem_append.2 (.inl h)
                      · omega)
                    refine ⟨some ⟨gg, 0, none⟩, vl + 1, cap, _, rfl, hown3, by have := HVM.out; omega, fun b hb => ?_, hg⟩
                    have hbg : gg = b := by simpa [Value.ownBlock] using hb
                    subst hbg
                    rcases (by simpa using hat3 : (Value.slice vp vl vc).ownBlock = some gg ∨ gg = w7.heap.size + 1) with h | h
                    · exact HVB.out _ h
                    · exact .inr (by have := HK7.out.size; omega)
                · clear hr
                  go_wp2_with fail
                  refine bodyPost_end (v := .tuple #[]) (by simp [results, Try.results18, go_sem]) rfl ?_
                  exact ⟨rfl, HK7.out⟩
end Go.Proofs.Ytccoihmibkpedaa
