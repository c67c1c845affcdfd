/-
  espalierref24.May, Names, wrong: their walks.
-/
import Derived.Test.YtccoihmibkpedaaRLook

import Derived.StillTailTactics

set_option linter.unusedVariables false

set_option linter.unusedSimpArgs false

namespace Go.Proofs.Ytccoihmibkpedaa

open Go.RowKit

theorem ownsRow_bs {w : World} {base base' e size n : Nat} {v : Value} {xs : List Value} (h : w.ownsRow base e size v n xs) (hb : base' ≤ base) : w.ownsRow base' e size v n xs :=
  ⟨h.1, h.2.imp id (fun ⟨g, cap, cur, a, b, c⟩ => ⟨g, cap, cur, a, Nat.le_trans hb b, c⟩)⟩
/-- look from nothing. -/
def Look0 (q : List Note × Bool) (w : World) (e : Ending) (w' : World) : Prop :=
  ∃ lp ll lc, e = .returned (.tuple #[.slice lp ll lc, .bool q.2]) ∧ NotesI w.heap.size w' q.1 lp ll lc ∧ Keeps (fun _ => False) w w'
theorem look0_any (x : Nd) (cp : Option Addr) (cl cc : Nat) (A : Nat → Prop) (w : World) (h : Tv w A x.k x.t x.c cp cl cc) (hn : x.c.nodes ≤ 100000) :
    Calls Try.prog 96 #[tv x.k x.n x.t cp cl cc, .slice none 0 0] w (Look0 (look1 x []) w) := by
  refine (look_any w.heap.size (fun b => b < w.heap.size) (fun b h => h) (x.c.nodes + 1) x.k x.n x.t x.c cp cl cc [] none 0 0 w (by omega) h.top (World.ownsRow_nil _ _ _ _) (Nat.le_refl _) (by simpa using hn)).mono ?_
  rintro e w' ⟨lp, ll, lc, rfl, hI, _, hk⟩
  exact ⟨lp, ll, lc, rfl, hI, hk.mono fun b hb _ => by simp [Value.ownBlock] at hb⟩
set_option maxRecDepth 100000 in
set_option maxHeartbeats 1600000 in
theorem rPMay_any (x : Nd) (cp : Option Addr) (cl cc : Nat) (A : Nat → Prop) (w : World) (h : Tv w A x.k x.t x.c cp cl cc) :
    Calls Try.prog 48 #[tv x.k x.n x.t cp cl cc] w fun e w' => e = .returned (.int .i64 (pmayF x)) ∧ Keeps (fun _ => False) w w' := by
  obtain ⟨W1, hW1⟩ : ∃ W1, W1 = w.alloc (.cells (four x.k x.n x.t cp cl cc) T) := ⟨_, rfl⟩
  have hK : Keeps (fun _ => False) w W1 := by rw [hW1]; exact (Keeps.refl _ w).alloc _
  have hb1 : W1.heap[w.heap.size]? = some (.cells (four x.k x.n x.t cp cl cc) T (0, 0)) := by rw [hW1]; exact heap_alloc_new _ _
  have ht1 := h.next hK
  have hz := rMay_any x cp cl cc _ W1 ht1
  obtain ⟨c0, c1, c2, c3, _⟩ := box4 hb1
  obtain ⟨r, hr⟩ : ∃ r, mayF x = r := ⟨_, rfl⟩
  rw [hr] at hz
  have HR := Lib.hid hr
  have HW := Lib.hid hW1
  have HB := Lib.hid hb1
  have HT := Lib.hid ht1
  clear hr hW1 hb1 ht1 h
  go_enter Try.func48, Try.ntmps48
  go_upto_region 1 with fail
  rw [← HW.out]
  go_wp2_with fail
  refine hz.mono ?_
  clear hz c0 c1 c2 c3
  rintro e W2 ⟨rfl, hk⟩
  by_cases h0 : r = 0
  · subst h0
    have hsm := mayF_small HR.out
    have hz := look0_any x cp cl cc _ W2 (HT.out.next hk) (by have := small_nodes hsm; omega)
    obtain ⟨h1, h2⟩ := look1_may x
    obtain ⟨c0, c1, c2, c3, _⟩ := box4 (hk.heap HB.out)
    have HF : Hid (pmayF x = if (look1 x []).2 then 0 else 41) := by show _ = _; rw [pmayF, if_pos HR.out, h1]
    obtain ⟨⟨L, b⟩, hq⟩ : ∃ q, look1 x [] = q := ⟨_, rfl⟩
    rw [hq] at hz HF
    clear hsm h1 h2 hq
    go_wp2_with fail
    refine hz.mono ?_
    clear hz c0 c1 c2 c3
    rintro e W3 ⟨lp, ll, lc, rfl, _, hk3⟩
    cases b
    all_goals
      go_wp2_with fail
      go_ret
      exact ⟨by rw [HF.out]; rfl, (hK.trans hk).trans hk3⟩
  · have hne : (r != 0) = true := by simpa using h0
    have HF : Hid (pmayF x = r) := by show _ = _; rw [pmayF, if_neg (by rw [HR.out]; exact h0), HR.out]
    go_wp2_with fail
    go_ret
    exact ⟨by rw [HF.out]; rfl, hK.trans hk⟩
/-- look of a pattern that may be. -/
theorem look0_ok (x : Nd) (cp : Option Addr) (cl cc : Nat) (A : Nat → Prop) (w : World) (h : Tv w A x.k x.t x.c cp cl cc) (hp : pmayF x = 0) :
    Calls Try.prog 96 #[tv x.k x.n x.t cp cl cc, .slice none 0 0] w (Look0 (nts x.all, true) w) := by
  have hsm := mayF_small (pmayF_zero hp).1
  have hz := look0_any x cp cl cc _ w h (by have := small_nodes hsm; omega)
  obtain ⟨h1, h2⟩ := look1_may x
  rw [(pmayF_zero hp).2] at h1
  have : look1 x [] = (nts x.all, true) := Prod.ext (h2 h1) h1
  rwa [this] at hz
theorem nts_len (x : Nd) : (nts x.all).length ≤ x.c.nodes + 1 := by
  have : ∀ l : List Nd, (nts l).length ≤ l.length := by
    refine snoc_induct (by simp [nts]) (fun l x ih => ?_)
    rw [nts_snoc, List.length_append]
    unfold nadd
    split
    · simp; omega
    · split
      · simp; omega
      · simp; omega
  have h := this x.all
  simpa [Nd.all, Fo.all_len] using h
set_option maxRecDepth 100000 in
set_option maxHeartbeats 1600000 in
theorem rPNames_any (x : Nd) (cp : Option Addr) (cl cc : Nat) (A : Nat → Prop) (w : World) (h : Tv w A x.k x.t x.c cp cl cc) :
    Calls Try.prog 49 #[tv x.k x.n x.t cp cl cc] w (StrsR (namesF x) w) := by
  obtain ⟨W1, hW1⟩ : ∃ W1, W1 = w.alloc (.cells (four x.k x.n x.t cp cl cc) T) := ⟨_, rfl⟩
  have hK : Keeps (fun _ => False) w W1 := by rw [hW1]; exact (Keeps.refl _ w).alloc _
  have hb1 : W1.heap[w.heap.size]? = some (.cells (four x.k x.n x.t cp cl cc) T (0, 0)) := by rw [hW1]; exact heap_alloc_new _ _
  have ht1 := h.next hK
  have hz := rPMay_any x cp cl cc _ W1 ht1
  obtain ⟨c0, c1, c2, c3, _⟩ := box4 hb1
  obtain ⟨r, hr⟩ : ∃ r, pmayF x = r := ⟨_, rfl⟩
  rw [hr] at hz
  have HR := Lib.hid hr
  have HW := Lib.hid hW1
  have HB := Lib.hid hb1
  have HT := Lib.hid ht1
  clear hr hW1 hb1 ht1 h
  go_enter Try.func49, Try.ntmps49
  go_upto_region 1 with fail
  rw [← HW.out]
  go_wp2_with fail
  refine hz.mono ?_
  clear hz c0 c1 c2 c3
  rintro e W2 ⟨rfl, hk⟩
  by_cases h0 : r = 0
  · subst h0
    have hz := look0_ok x cp cl cc _ W2 (HT.out.next hk) HR.out
    obtain ⟨c0, c1, c2, c3, _⟩ := box4 (hk.heap HB.out)
    have HF : Hid (namesF x = (nts x.all).map (·.1)) := by show _ = _; rw [namesF, if_pos HR.out]
    have hnl : (nts x.all).length ≤ 1024 := by have := nts_len x; have := small_nodes (mayF_small (pmayF_zero HR.out).1); omega
    obtain ⟨L, hL⟩ : ∃ L, nts x.all = L := ⟨_, rfl⟩
    rw [hL] at hz HF hnl
    clear hL
    go_wp2_with fail
    refine hz.mono ?_
    clear hz c0 c1 c2 c3
    rintro e W3 ⟨lp, ll, lc, rfl, hI, hk3⟩
    have hll : ll = L.length := hI.len
    obtain ⟨hlc1, hlc2⟩ := hI.cap
    have HLL := Lib.hid hll
    have HI := Lib.hid hI
    have HK3 := Lib.hid ((hK.trans hk).trans hk3)
    have hs3 : w.heap.size ≤ W3.heap.size := HK3.out.size
    have hll1 : ll ≤ 1024 := by omega
    clear hll hI hk3 hk
    go_wp2_with fail
    go_loopg [5, 6] ll (fun m v i W => ∃ j : Nat, j + m = ll ∧ i = .int .i64 j ∧ ∃ vp vl vc, v = .slice vp vl vc ∧ W.ownsRow W3.heap.size 9 1 (.slice vp vl vc) j ((L.take j).map fun e => .string e.1) ∧ Keeps (fun _ => False) W3 W)
    case atStart => exact ⟨0, by omega, rfl, none, 0, 0, rfl, World.ownsRow_nil _ _ _ _, Keeps.refl _ _⟩
    case round =>
      obtain ⟨j, hjm, rfl, vp, vl, vc, rfl, hrow, hkr⟩ := hrel
      have hj0 : (0 : Int) ≤ (j : Int) := Int.natCast_nonneg _
      have HJ := Lib.hid hjm
      have HROW := Lib.hid hrow
      have HKR := Lib.hid hkr
      clear hjm hrow hkr
      by_cases hlt : j < ll
      · obtain ⟨⟨nm, n2, t2⟩, he⟩ : ∃ e, L[j]? = some e := ⟨_, List.getElem?_eq_getElem (by have := HLL.out; omega)⟩
        obtain ⟨g, rfl, _, _, e0', _⟩ := (HI.out.keeps HKR.out (fun _ _ h => h)).at_ he
        have hi1 : (j : Int) < (ll : Int) := by omega
        have HT2 : Hid ((L.take (j + 1)).map (fun e => Value.string e.1) = (L.take j).map (fun e => Value.string e.1) ++ [.string nm]) := by show _ = _; rw [List.take_add_one, he]; simp
        have hwr : W3.heap.size ≤ wr.heap.size := HKR.out.size
        obtain ⟨i0, hi0', hz0, hz1, hz2⟩ := info_parts Try.strInfo'
        obtain ⟨V, hV⟩ : ∃ V, V = wr := ⟨_, rfl⟩
        subst hV
        clear he
        go_wp2_with (at_builtin; refine wpList_append_lies _ rfl _ _ _ rfl W3.heap.size 9 i0 _ 1 16 Try.underlying58 hi0' hz0 hz1 hz2 rfl (by decide) (.slice vp vl vc) j ((L.take j).map fun e => .string e.1) rfl (HROW.out.alloc _) ⟨V.heap.size, 0, none⟩ 1 1 [.string nm] rfl rfl (World.news_of_block (cs := #[.string nm]) (t := 9) (fr := (0, 0)) (heap_alloc_new V _)) (by simp [Value.oneCell']) (by omega) (by simp only [maxLen]; omega) (by omega) (by simp; omega) (V.heap.size + 1) (by simp) ?_; intro gg cap w7 hown7 hgrow7 hat7 hlt7)
        go_roundg (gk - 1)
        case measure => have := HJ.out; omega
        case rel =>
          refine ⟨j + 1, by have := HJ.out; omega, by go_num, _, _, _, rfl, by rw [HT2.out]; exact hown7, ?_⟩
          exact (HKR.out.alloc _).trans' ((Keeps.refl (fun b => (Value.slice vp vl vc).ownBlock = some b) _).grown hgrow7 (fun b hb _ => hb)) (fun b hb hl => by have := World.ownsRow.lt HROW.out b hb; omega)
      · have hjl : Hid (j = ll) := by show j = ll; have := HJ.out; omega
        have HV : Hid (vl = j) := Lib.hid (row_len HROW.out)
        go_wp2_with fail
        go_ret
        refine ⟨vp, vl, vc, rfl, ?_, ?_, HK3.out.trans HKR.out⟩
        · rw [HF.out, List.length_map, ← HLL.out]
          have h1 := HROW.out
          rw [List.take_of_length_le (by have := hjl.out; have := HLL.out; omega), hjl.out] at h1
          rw [List.map_map]
          exact ownsRow_bs h1 (Nat.zero_le _)
        · intro b hb
          have := World.ownsRow.lt HROW.out b hb
          omega
  · have hne : (r != 0) = true := by simpa using h0
    have HF : Hid (namesF x = []) := by show _ = _; rw [namesF, if_neg (by rw [HR.out]; exact h0)]
    go_wp2_with fail
    go_ret
    refine ⟨none, 0, 0, rfl, ?_, fun b hb => by simp [Value.ownBlock] at hb, hK.trans hk⟩
    rw [HF.out]
    exact World.ownsRow_nil _ _ _ _
end Go.Proofs.Ytccoihmibkpedaa
