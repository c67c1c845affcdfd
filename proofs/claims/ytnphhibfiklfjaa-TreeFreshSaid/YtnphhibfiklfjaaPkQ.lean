/-
  Lists of trees; the book of lists of trees in memory.
  Merged texts: XLst4, XBook4P, XTake4P.
-/
import Derived.Test.YtnphhibfiklfjaaSpoil

import Derived.Test.YtnphhibfiklfjaaPkP

set_option linter.unusedVariables false

set_option linter.unusedSimpArgs false

/-!
  espalierlaw4.lists: its walk: the lists of a tree in memory of its own.
-/
namespace Go.Proofs.Ytnphhibfiklfjaa

open Go.RowKit

abbrev TL : TypeId := 22
theorem Try.listInfo : (Try.prog.info? TL).map (fun i => (i.zero, i.size, i.bytes)) = some (some (.slice none 0 0), 1, 24) := by kernel_rfl
/-- The values vs are lists of trees in the blocks bs. -/
def KL (w : World) : List Nat → List Value → Prop
  | [], vs => vs = []
  | b :: bs, vs => ∃ n cap xs vs', vs = .slice (some ⟨b, 0, none⟩) n cap :: vs' ∧ w.ownsRow 0 T 4 (.slice (some ⟨b, 0, none⟩) n cap) n xs ∧ n ≤ 200000 ∧ KL w bs vs'
theorem KL.append {w : World} : ∀ {bs bs' : List Nat} {vs vs' : List Value}, KL w bs vs → KL w bs' vs' → KL w (bs ++ bs') (vs ++ vs')
  | [], _, _, _, h, h' => by
    have h : _ = [] := h
    subst h
    exact h'
  | b :: bs, _, _, _, ⟨n, cap, xs, vs1, e, h1, h2, h3⟩, h' => ⟨n, cap, xs, _, by rw [e, List.cons_append], h1, h2, KL.append h3 h'⟩
theorem KL.same {w w1 : World} : ∀ {bs : List Nat} {vs : List Value}, KL w bs vs → (∀ b ∈ bs, w1.heap[b]? = w.heap[b]?) → KL w1 bs vs
  | [], _, h, _ => h
  | b :: bs, _, ⟨n, cap, xs, vs1, e, h1, h2, h3⟩, h => by
    refine ⟨n, cap, xs, vs1, e, ownsRow_same h1 (fun c hc => ?_), h2, KL.same h3 (fun c hc => h c (List.mem_cons_of_mem _ hc))⟩
    have e2 : c = b := by simpa [Value.ownBlock] using hc
    subst e2
    exact h c (List.mem_cons_self ..)
theorem KL.len {w : World} : ∀ {bs : List Nat} {vs : List Value}, KL w bs vs → vs.length = bs.length
  | [], _, h => by
    have h : _ = [] := h
    subst h
    rfl
  | b :: bs, _, ⟨n, cap, xs, vs1, e, h1, h2, h3⟩ => by rw [e, List.length_cons, List.length_cons, KL.len h3]
theorem KL.at_ {w : World} : ∀ {bs : List Nat} {vs : List Value} {i : Nat} {v : Value}, KL w bs vs → vs[i]? = some v → ∃ b n cap xs, bs[i]? = some b ∧ v = .slice (some ⟨b, 0, none⟩) n cap ∧ w.ownsRow 0 T 4 v n xs ∧ n ≤ 200000
  | [], _, _, _, h, hv => by
    have h : _ = [] := h
    subst h
    simp at hv
  | b :: bs, _, 0, v, ⟨n, cap, xs, vs1, e, h1, h2, h3⟩, hv => by
    subst e
    simp only [List.getElem?_cons_zero, Option.some.injEq] at hv
    subst hv
    exact ⟨b, n, cap, xs, rfl, rfl, h1, h2⟩
  | b :: bs, _, i + 1, v, ⟨n, cap, xs, vs1, e, h1, h2, h3⟩, hv => by
    subst e
    simp only [List.getElem?_cons_succ] at hv
    obtain ⟨b', n', cap', xs', q1, q2, q3, q4⟩ := KL.at_ h3 hv
    exact ⟨b', n', cap', xs', by simpa using q1, q2, q3, q4⟩
/-- How the list that grows stands. -/
def LstR (D : Nat) (lp : Option Addr) (ll lc : Nat) (vs0 : List Value) (bs : List Nat) (w w' : World) (v : Value) : Prop :=
  ∃ lp' ll' lc' vs1 bs1, v = .slice lp' ll' lc' ∧ w'.ownsRow D TL 1 (.slice lp' ll' lc') ll' (vs0 ++ vs1) ∧ KL w bs1 vs1 ∧ bs1.Sublist bs ∧ ll' = ll + vs1.length ∧ Keeps (fun b => (Value.slice lp ll lc).ownBlock = some b) w w' ∧
    ∀ b, (Value.slice lp' ll' lc').ownBlock = some b → (Value.slice lp ll lc).ownBlock = some b ∨ w.heap.size ≤ b
theorem LstR.step {D : Nat} {lp lp' : Option Addr} {ll lc ll' lc' : Nat} {vs0 vs1 : List Value} {bsA bsB bs1 : List Nat} {w W W2 : World} {v2 : Value} (hk1 : Keeps (fun b => (Value.slice lp ll lc).ownBlock = some b) w W)
    (hfr1 : ∀ b, (Value.slice lp' ll' lc').ownBlock = some b → (Value.slice lp ll lc).ownBlock = some b ∨ w.heap.size ≤ b) (hKL : KL w bs1 vs1) (hsub : bs1.Sublist bsA) (hlen : ll' = ll + vs1.length) (hB : ∀ b ∈ bsB, W.heap[b]? = w.heap[b]?)
    (h2 : LstR D lp' ll' lc' (vs0 ++ vs1) bsB W W2 v2) : LstR D lp ll lc vs0 (bsA ++ bsB) w W2 v2 := by
  obtain ⟨lp2, ll2, lc2, vs2, bs2, rfl, h3, h4, h5, h6, h7, h8⟩ := h2
  refine ⟨lp2, ll2, lc2, vs1 ++ vs2, bs1 ++ bs2, rfl, by rw [← List.append_assoc]; exact h3, hKL.append (h4.same fun b hb => (hB b (h5.subset hb)).symm), hsub.append h5, by rw [List.length_append]; omega, hk1.trans' h7 (fun b hb hl => ?_), fun b hb => ?_⟩
  · rcases hfr1 b hb with h | h
    · exact h
    · omega
  · rcases h8 b hb with h | h
    · exact hfr1 b h
    · exact .inr (Nat.le_trans hk1.size h)
set_option maxRecDepth 100000 in
set_option maxHeartbeats 3200000 in
theorem lists_any (D : Nat) : ∀ (N : Nat), N ≤ 200000 → ∀ (k : ByteArray) (n : Int) (t : ByteArray) (c : Fo) (cp : Option Addr) (cl cc : Nat) (bs : List Nat) (lp : Option Addr) (ll lc : Nat) (vs0 : List Value) (w : World), c.nodes < N → Own w c cp cl cc bs → w.ownsRow D TL 1 (.slice lp ll lc) ll vs0 → ll + bs.length ≤ 4000000 → D ≤ w.heap.size →
   Calls Try.prog 60 #[tv k n t cp cl cc, .slice lp ll lc] w fun e w' => ∃ v, e = .returned v ∧ LstR D lp ll lc vs0 bs w w' v := by
  intro N
  induction N with
  | zero => intros; omega
  | succ N ih =>
    intro hN1 k n t c cp cl cc bs lp ll lc vs0 w hN hO hl hlb hDw
    obtain ⟨i0, hi0, hz0, hz1, hz2⟩ := info_parts Try.listInfo
    have hsh := hO.shape
    obtain ⟨ys, bs1, hrow, hrep, rfl⟩ := hO
    obtain ⟨W1, hW1⟩ : ∃ W1, W1 = w.alloc (.cells (four k n t cp cl cc) T) := ⟨_, rfl⟩
    have hK : Keeps (fun _ => False) w W1 := by rw [hW1]; exact (Keeps.refl _ w).alloc _
    have hb1 : W1.heap[w.heap.size]? = some (.cells (four k n t cp cl cc) T (0, 0)) := by rw [hW1]; exact heap_alloc_new _ _
    obtain ⟨hcl, hlc, hcm, had⟩ := ownsRow_caps hrow
    have hlne : ∀ b ∈ sb cp cl cc ++ bs1, b < w.heap.size ∧ (Value.slice lp ll lc).ownBlock ≠ some b := fun b hb => by
      obtain ⟨cur, hh⟩ := hsh b hb
      refine ⟨heap_lt hh, fun e => ?_⟩
      obtain ⟨_, cur', h2⟩ := ownsRow_blk hl e
      rw [hh] at h2
      simp only [Option.some.injEq, Obj.cells.injEq] at h2
      exact absurd h2.2.1 (by decide)
    have hcn : cl ≤ 200000 := by have h1 := Fo.len_nodes c; omega
    obtain ⟨c0, c1, c2, c3, _⟩ := box4 hb1
    have hl1 : W1.ownsRow D TL 1 (.slice lp ll lc) ll vs0 := ownsRow_same hl (fun b hb => hK.block b (hl.lt b (by simpa using hb)).2 (fun h => h))
    have hll1 : ll + 1 ≤ maxLen := by unfold maxLen; omega
    have HI := Lib.hid ih
    have HN := Lib.hid hN
    have HCL := Lib.hid hcl
    have HW := Lib.hid hW1
    have HB := Lib.hid hb1
    have HROW := Lib.hid hrow
    have HREP := Lib.hid hrep
    have HLNE := Lib.hid hlne
    have HAD := Lib.hid had
    have HL := Lib.hid hl
    have HSH := Lib.hid hsh
    have HS1 : Hid (W1.heap.size = w.heap.size + 1) := by show _ = _; rw [hW1]; simp
    have HB1 : Hid (W1.heap.size = w.heap.size + 1 ∧ D ≤ W1.heap.size) := Lib.hid ⟨HS1.out, by have := HS1.out; omega⟩
    clear ih hN hcl hW1 hb1 hrow hrep hlne had hl hsh
    go_enter Try.func60, Try.ntmps60
    go_upto_region 1 with fail
    rw [← HW.out]
    -- the tree's own list
    go_upto_if 9 with fail
    go_cut [1] from 9 (fun v W => LstR D lp ll lc vs0 (sb cp cl cc) w W v ∧ Keeps (fun b => (Value.slice lp ll lc).ownBlock = some b) W1 W)
    case first =>
      by_cases h0 : 0 < cc
      · obtain ⟨g, rfl⟩ : ∃ g, cp = some ⟨g, 0, none⟩ := by
          rcases HROW.out.2 with ⟨h1, _⟩ | ⟨g, cap', cur, h1, _⟩
          · simp only [Value.slice.injEq] at h1; omega
          · simp only [Value.slice.injEq] at h1; exact ⟨g, h1.1⟩
        have hi1 : (0 : Int) < (cc : Int) := by omega
        have hrk : w.ownsRow 0 T 4 (.slice (some ⟨g, 0, none⟩) cl cc) cl ys := by have := HROW.out; rwa [← HCL.out] at this
        have hDW := HB1.out.2
        have HRK := Lib.hid hrk
        clear hrk
        go_wp2_with (at_builtin; refine wpList_append_lies _ rfl _ _ _ rfl D TL i0 _ 1 24 Try.underlying61 hi0 hz0 hz1 hz2 rfl (by decide) (.slice lp ll lc) ll vs0 rfl (hl1.alloc _) ⟨W1.heap.size, 0, none⟩ 1 1 [.slice (some ⟨g, 0, none⟩) cl cc] rfl rfl (World.news_of_block (cs := #[.slice (some ⟨g, 0, none⟩) cl cc]) (t := TL) (fr := (0, 0)) (heap_alloc_new W1 _)) (by simp [Value.oneCell']) (by omega) hll1 (by omega) (by simp; omega) (W1.heap.size + 1) (by simp) ?_; intro gg cap w3 hown3 hgrow3 hat3 hlt3)
        go_meet
        case rel =>
          have hk13 : Keeps (fun b => (Value.slice lp ll lc).ownBlock = some b) W1 w3 := ((Keeps.refl _ W1).alloc _).grown hgrow3 (fun k hk _ => hk)
          refine ⟨⟨some ⟨gg, 0, none⟩, ll + 1, cap, [.slice (some ⟨g, 0, none⟩) cl cc], [g], rfl, hown3, ⟨cl, cc, ys, [], rfl, HRK.out, hcn, rfl⟩, List.Sublist.refl _, rfl, (hK.mono (S' := fun b => (Value.slice lp ll lc).ownBlock = some b) (fun _ h _ => h.elim)).trans hk13, fun b hb => ?_⟩, hk13⟩
          have e : gg = b := by simpa [Value.ownBlock] using hb
          subst e
          rcases (by simpa using hat3 : (Value.slice lp ll lc).ownBlock = some gg ∨ gg = W1.heap.size + 1) with h | h
          · exact .inl h
          · exact .inr (by have := HS1.out; omega)
      · have hcc : cc = 0 := by omega
        subst hcc
        go_wp2_with fail
        go_meet
        case rel => exact ⟨⟨lp, ll, lc, [], [], rfl, by rw [List.append_nil]; exact hl1, rfl, List.nil_sublist _, rfl, hK.mono (fun _ h _ => h.elim), fun b hb => .inl hb⟩, Keeps.refl _ _⟩
    case rest =>
      obtain ⟨w2, hw2⟩ : ∃ X, X = wc := ⟨_, rfl⟩
      subst hw2
      obtain ⟨hL2, hk12⟩ := hcut
      have hnb : (Value.slice lp ll lc).ownBlock ≠ some w.heap.size := fun e => by have := (HL.out.lt _ e).2; omega
      have hbx := (hk12.block _ (heap_lt HB.out) hnb).trans HB.out
      obtain ⟨c0, c1, c2, c3, _⟩ := box4 hbx
      have HNB := Lib.hid hnb
      have HL2 := Lib.hid hL2
      have HK12 := Lib.hid hk12
      clear hL2 hk12 hbx hl1 hll1 hnb
      go_wp2_with fail
      go_loopg [1, 5] cl (fun m v i W => ∃ j : Nat, j + m = cl ∧ i = .int .i64 j ∧ (∃ bs0 bs', bs1 = bs0 ++ bs' ∧ RowRep w (c.drop j) (ys.drop (j * 4)) bs' ∧ LstR D lp ll lc vs0 (sb cp cl cc ++ bs0) w W v) ∧ Keeps (fun b => (Value.slice lp ll lc).ownBlock = some b) W1 W)
      case atStart => exact ⟨0, by omega, rfl, ⟨[], bs1, rfl, by rw [show Fo.drop 0 c = c by cases c <;> rfl]; simpa using HREP.out, by rw [List.append_nil]; exact HL2.out⟩, HK12.out⟩
      case round =>
        obtain ⟨w5, hw5⟩ : ∃ X, X = wr := ⟨_, rfl⟩
        subst hw5
        obtain ⟨j, hjm, rfl, ⟨bs0, bs', hbs, hrp, hLR⟩, hk⟩ := hrel
        obtain ⟨lp', ll', lc', vs1, bsx, rfl, hr', hKL, hsub, hlen, hkl, hfr⟩ := hLR
        have hbx := (hk.block _ (heap_lt HB.out) HNB.out).trans HB.out
        obtain ⟨c0, c1, c2, c3, _⟩ := box4 hbx
        have HJ := Lib.hid hjm
        have HK := Lib.hid hk
        have HKL2 := Lib.hid hkl
        have hsame : ∀ b ∈ sb cp cl cc ++ bs1, w5.heap[b]? = w.heap[b]? := fun b hb => hkl.block b (HLNE.out b hb).1 (HLNE.out b hb).2
        have HSM := Lib.hid hsame
        have hj0 : (0 : Int) ≤ (j : Int) := Int.natCast_nonneg _
        clear hjm hbx hk hkl hsame
        by_cases hlt : j < cl
        · obtain ⟨g, rfl⟩ := HAD.out (by omega)
          have hrj : w5.ownsRow 0 T 4 (.slice (some ⟨g, 0, none⟩) cl cc) cl ys := by
            have h1 := HROW.out
            rw [← HCL.out] at h1
            exact ownsRow_same h1 (fun b hb => HSM.out b (List.mem_append.2 (.inl hb)))
          obtain ⟨k1, n1, t1, s1, r1, hdr⟩ := Fo.drop_lt j c (by rw [← HCL.out]; exact hlt)
          rw [hdr] at hrp
          obtain ⟨cp1, cl1, cc1, ys1, bsa, ys2, bsb, hy, hbb, hsz, hrowk, hrepk, hrest⟩ := hrp
          have hcells : ∀ d v, (ys.drop (j * 4))[d]? = some v → w5.cell? ⟨g, j * 4 + d, none⟩ = some v := fun d v hd => ownsRow_cellAt hrj (by rwa [List.getElem?_drop] at hd)
          rw [hy] at hcells
          have a0 : w5.cell? ⟨g, j * 4, none⟩ = some (.string k1) := hcells 0 _ rfl
          have a1 : w5.cell? ⟨g, j * 4 + 1, none⟩ = some (.int .i64 n1) := hcells 1 _ rfl
          have a2 : w5.cell? ⟨g, j * 4 + 2, none⟩ = some (.string t1) := hcells 2 _ rfl
          have a3 : w5.cell? ⟨g, j * 4 + 3, none⟩ = some (.slice cp1 cl1 cc1) := hcells 3 _ rfl
          have hin : ∀ b ∈ sb cp1 cl1 cc1 ++ bsa, b ∈ bs1 := fun b hb => by rw [hbs, hbb]; exact List.mem_append.2 (.inr (List.mem_append.2 (.inl hb)))
          have hOk : Own w5 s1 cp1 cl1 cc1 (sb cp1 cl1 cc1 ++ bsa) := Own.same ⟨ys1, bsa, hrowk, hrepk, rfl⟩ (fun b hb => HSM.out b (List.mem_append.2 (.inr (hin b hb))))
          have hlens : ll' + (sb cp1 cl1 cc1 ++ bsa).length ≤ 4000000 := by
            have h1 := hKL.len
            have h2 := hsub.length_le
            rw [hbs, hbb] at hlb
            simp only [List.length_append] at h2 hlb ⊢
            omega
          have hz := HI.out (by omega) k1 n1 t1 s1 cp1 cl1 cc1 (sb cp1 cl1 cc1 ++ bsa) lp' ll' lc' (vs0 ++ vs1) w5 (by have := Tv.kidNodes hdr; have := HN.out; omega) hOk hr' hlens (by have := HK.out.size; have := HB1.out; omega)
          have hi1 : (j : Int) < (cl : Int) := by omega
          have hnext : Hid (∀ W2 v2, LstR D lp' ll' lc' (vs0 ++ vs1) (sb cp1 cl1 cc1 ++ bsa) w5 W2 v2 → (∃ bs0 bs', bs1 = bs0 ++ bs' ∧ RowRep w (c.drop (j + 1)) (ys.drop ((j + 1) * 4)) bs' ∧ LstR D lp ll lc vs0 (sb (some ⟨g, 0, none⟩) cl cc ++ bs0) w W2 v2) ∧ Keeps (fun b => (Value.slice lp ll lc).ownBlock = some b) W1 W2) := Lib.hid fun W2 v2 h2 => by
            refine ⟨⟨bs0 ++ (sb cp1 cl1 cc1 ++ bsa), bsb, by rw [hbs, hbb]; simp only [List.append_assoc], ?_, ?_⟩, ?_⟩
            · have e2 : ys.drop ((j + 1) * 4) = ys2 := by
                have : ys.drop ((j + 1) * 4) = (ys.drop (j * 4)).drop 4 := by rw [List.drop_drop]; congr 1; omega
                rw [this, hy]
                rfl
              rw [Fo.drop_step hdr, e2]
              exact hrest
            · rw [← List.append_assoc]
              exact LstR.step HKL2.out hfr hKL hsub hlen (fun b hb => HSM.out b (List.mem_append.2 (.inr (hin b hb)))) h2
            · obtain ⟨_, _, _, _, _, _, _, _, _, _, h7, _⟩ := h2
              exact HK.out.trans' h7 (fun b hb hl => by
                rcases hfr b hb with h | h
                · exact h
                · have hw0 : b = w.heap.size ∨ W1.heap.size ≤ b := by have := HS1.out; omega
                  rcases hw0 with h' | h'
                  · subst h'
                    obtain ⟨_, cur, hh⟩ := ownsRow_blk hr' hb
                    have := (HK.out.block _ (heap_lt HB.out) HNB.out).trans HB.out
                    rw [hh] at this
                    simp only [Option.some.injEq, Obj.cells.injEq] at this
                    exact absurd this.2.1 (by decide)
                  · omega)
          clear hrowk hrepk hrest hcells hy hbb hbs hsz hdr hrj hin hOk hlens hKL hsub hlen hfr hr'
          go_wp2_with fail
          refine hz.mono ?_
          clear hz a0 a1 a2 a3 c0 c1 c2 c3
          rintro e W2 ⟨v2, rfl, hk2⟩
          have HK2 := Lib.hid hk2
          clear hk2
          go_wp2_with fail
          go_roundg (gk - 1)
          case measure => have := HJ.out; omega
          case rel => exact ⟨j + 1, by have := HJ.out; omega, by go_num, (hnext.out _ _ HK2.out).1, (hnext.out _ _ HK2.out).2⟩
        · have hfin : LstR D lp ll lc vs0 (sb cp cl cc ++ bs1) w w5 (.slice lp' ll' lc') := ⟨lp', ll', lc', vs1, bsx, rfl, hr', hKL, hsub.trans (by rw [hbs, ← List.append_assoc]; exact List.sublist_append_left _ _), hlen, HKL2.out, hfr⟩
          have HF := Lib.hid hfin
          clear hrp hbs hr' hKL hsub hlen hfr hfin
          go_wp2_with fail
          go_ret
          exact ⟨_, rfl, HF.out⟩
end Go.Proofs.Ytnphhibfiklfjaa

/-!
  The book of lists of trees in memory.
-/
namespace Go.Proofs.Ytnphhibfiklfjaa

open Go.RowKit

abbrev T4 : TypeId := 63
abbrev kX4 : ByteArray := ⟨#[120]⟩
/-- The first n places hold the i-th mark, those behind it the mark of what has grown. -/
def Good (i n : Nat) (c : Nat × List Value) : Prop := ∀ k : Nat, k < c.1 → c.2[k * 4]? = some (.string e0) ∧ c.2[k * 4 + 1]? = some (.int .i64 (-((i : Int) + 1))) ∧ c.2[k * 4 + 2]? = some (.string (if k < n then e0 else kX4)) ∧ c.2[k * 4 + 3]? = some (.slice none 0 0)
structure B4 (D pb : Nat) (W : World) (lv nv : Value) (sz : Int) (kv : Value) (vs : List Value) (cs : List (Nat × List Value)) (ns : List Nat) : Prop where
  box : W.heap[pb]? = some (.cells #[lv, nv, .int .i64 sz, kv] T4 (0, 0))
  lists : Lists D TL T 4 W lv vs cs
  nlen : ns.length = vs.length
  lens : W.ownsRow D 3 1 nv vs.length (ns.map fun n : Nat => .int .i64 (n : Int))
  good : ∀ (i n : Nat) (c : Nat × List Value), ns[i]? = some n → cs[i]? = some c → n ≤ c.1 ∧ n ≤ 200000 ∧ Good i n c
theorem box44 {W : World} {b : Nat} {v0 v1 v2 v3 : Value} {ty : TypeId} (h : W.heap[b]? = some (.cells #[v0, v1, v2, v3] ty (0, 0))) : (W.cell? ⟨b, 0, none⟩ = some v0 ∧ W.cell? ⟨b, 1, none⟩ = some v1 ∧ W.cell? ⟨b, 2, none⟩ = some v2 ∧ W.cell? ⟨b, 3, none⟩ = some v3) ∧ W.frozen? ⟨b, 0, none⟩ = false ∧ W.frozen? ⟨b, 1, none⟩ = false ∧ W.frozen? ⟨b, 2, none⟩ = false ∧ W.frozen? ⟨b, 3, none⟩ = false := by
  simp [World.cell?, World.frozen?, h]
theorem row_ty {W : World} {D e st n pb : Nat} {v : Value} {xs : List Value} {cs : Array Value} {TT : TypeId} (hbox : W.heap[pb]? = some (.cells cs TT (0, 0))) (hr : W.ownsRow D e st v n xs) (hne : e ≠ TT) : v.ownBlock ≠ some pb := fun h => by
  obtain ⟨_, cur, hh⟩ := ownsRow_blk hr h
  rw [hbox] at hh
  simp only [Option.some.injEq, Obj.cells.injEq] at hh
  exact hne hh.2.1.symm
/-- All blocks of a book. -/
def B4.Blk (pb : Nat) (lv nv : Value) (vs : List Value) (b : Nat) : Prop := b = pb ∨ Lists.Blk lv vs b ∨ nv.ownBlock = some b
section

variable {D pb : Nat} {W W1 : World} {lv nv kv : Value} {sz : Int} {vs : List Value} {cs : List (Nat × List Value)} {ns : List Nat}

theorem B4.lt (h : B4 D pb W lv nv sz kv vs cs ns) {b : Nat} (hb : B4.Blk pb lv nv vs b) : b < W.heap.size := by
  rcases hb with rfl | hb | hb
  · exact heap_lt h.box
  · exact (h.lists.lo hb).2
  · exact (h.lens.lt b hb).2
theorem B4.pbne (h : B4 D pb W lv nv sz kv vs cs ns) : ¬ Lists.Blk lv vs pb ∧ nv.ownBlock ≠ some pb := by
  refine ⟨fun e => ?_, row_ty h.box h.lens (by decide)⟩
  rcases e with e | ⟨v, hv, e⟩
  · exact row_ty h.box h.lists.row (by decide) e
  · obtain ⟨i, hi⟩ := List.getElem?_of_mem hv
    obtain ⟨v', c, h1, _, h3⟩ := h.lists.at_ (List.getElem?_eq_some_iff.1 hi).1
    rw [hi] at h1
    simp only [Option.some.injEq] at h1
    subst h1
    exact row_ty h.box h3 (by decide) e
theorem B4.keeps {S : Nat → Prop} (h : B4 D pb W lv nv sz kv vs cs ns) (hk : Keeps S W W1) (hS : ∀ b, S b → ¬ B4.Blk pb lv nv vs b) : B4 D pb W1 lv nv sz kv vs cs ns :=
  ⟨(hk.block _ (heap_lt h.box) (fun e => hS _ e (.inl rfl))).trans h.box, h.lists.keeps hk (fun b hb e => hS b hb (.inr (.inl e))), h.nlen, ownsRow_same h.lens (fun b hb => by
    have hb : nv.ownBlock = some b := by simpa using hb
    exact hk.block b (h.lens.lt b hb).2 (fun e => hS b e (.inr (.inr hb)))), h.good⟩
theorem B4.next (h : B4 D pb W lv nv sz kv vs cs ns) (hk : Keeps (fun _ => False) W W1) : B4 D pb W1 lv nv sz kv vs cs ns := h.keeps hk (fun _ h => h.elim)
theorem B4.count (h : B4 D pb W lv nv sz kv vs cs ns) (sz' : Int) : B4 D pb (W.setCell ⟨pb, 2, none⟩ (.int .i64 sz')) lv nv sz' kv vs cs ns := by
  have hk : Keeps (fun b => b = pb) W (W.setCell ⟨pb, 2, none⟩ (.int .i64 sz')) := (Keeps.refl (fun b => b = pb) W).setCell (p := ⟨pb, 2, none⟩) (fun _ => rfl) _
  refine ⟨by rw [heap_set h.box]; rfl, h.lists.keeps hk (fun b hb e => h.pbne.1 (by have hb : b = pb := hb; rwa [hb] at e)), h.nlen, ownsRow_same h.lens (fun b hb => ?_), h.good⟩
  have hb : nv.ownBlock = some b := by simpa using hb
  have := h.lens.lt b hb
  exact hk.block b this.2 (fun e => h.pbne.2 (by have e : b = pb := e; rwa [e] at hb))
theorem B4.nvne (h : B4 D pb W lv nv sz kv vs cs ns) {b : Nat} (hb : nv.ownBlock = some b) : ¬ Lists.Blk lv vs b := fun e => by
  rcases e with e | ⟨v, hv, e⟩
  · exact rows_ne h.lens h.lists.row (by decide) hb e
  · obtain ⟨i, hi⟩ := List.getElem?_of_mem hv
    obtain ⟨v', c, h1, _, h3⟩ := h.lists.at_ (List.getElem?_eq_some_iff.1 hi).1
    rw [hi] at h1
    simp only [Option.some.injEq] at h1
    subst h1
    exact rows_ne h.lens h3 (by decide) hb e
end

abbrev S4o (W : World) (g o : Nat) (k : ByteArray) (n : Int) (t : ByteArray) (cp : Option Addr) (cl cc : Nat) : World := (((W.setCell ⟨g, o, none⟩ (.string k)).setCell ⟨g, o + 1, none⟩ (.int .i64 n)).setCell ⟨g, o + 2, none⟩ (.string t)).setCell ⟨g, o + 3, none⟩ (.slice cp cl cc)
/-- Of cap places of a list of trees the first k hold a mark. -/
structure PT (g cap : Nat) (i : Nat) (k : Nat) (W : World) : Prop where
  blk : ∃ cur, W.heap[g]? = some (.cells cur T (0, 0)) ∧ cur.size = cap * 4
  cells : ∀ j, j < k → W.cell? ⟨g, j * 4, none⟩ = some (.string e0) ∧ W.cell? ⟨g, j * 4 + 1, none⟩ = some (.int .i64 (-((i : Int) + 1))) ∧ W.cell? ⟨g, j * 4 + 2, none⟩ = some (.string e0) ∧ W.cell? ⟨g, j * 4 + 3, none⟩ = some (.slice none 0 0)
theorem PT.keeps {g cap i k : Nat} {S : Nat → Prop} {W W1 : World} (h : PT g cap i k W) (hk : Keeps S W W1) (hS : ¬ S g) : PT g cap i k W1 := by
  obtain ⟨cur, h1, h2⟩ := h.blk
  have hc : ∀ q v, W.cell? ⟨g, q, none⟩ = some v → W1.cell? ⟨g, q, none⟩ = some v := fun q v hv => (hk.cell (p := ⟨g, q, none⟩) (heap_lt h1) hS).trans hv
  exact ⟨⟨cur, (hk.block g (heap_lt h1) hS).trans h1, h2⟩, fun j hj => by
    obtain ⟨q0, q1, q2, q3⟩ := h.cells j hj
    exact ⟨hc _ _ q0, hc _ _ q1, hc _ _ q2, hc _ _ q3⟩⟩
theorem PT.any {g cap i k : Nat} {W : World} (h : PT g cap i k W) : (∀ j, j < cap * 4 → ∃ v, W.cell? ⟨g, j, none⟩ = some v) ∧ ∀ j, W.frozen? ⟨g, j, none⟩ = false := by
  obtain ⟨cur, h1, h2⟩ := h.blk
  exact ⟨fun j hj => ⟨cur[j]'(by omega), by simp [World.cell?, h1, h2, hj]⟩, fun j => by simp [World.frozen?, h1]⟩
theorem PT.start {W : World} {D n g cap i : Nat} {xs : List Value} (h : W.ownsRow D T 4 (.slice (some ⟨g, 0, none⟩) n cap) n xs) : PT g cap i 0 W := by
  rcases h.2 with ⟨h1, _⟩ | ⟨g', cap', cur, h1, _, h2, _, _, h3, _⟩
  · simp at h1
  · simp only [Value.slice.injEq, Option.some.injEq, Addr.mk.injEq, and_true, true_and] at h1
    obtain ⟨rfl, rfl⟩ := h1
    exact ⟨⟨cur, h2, h3⟩, fun j hj => by omega⟩
theorem PT.set {g cap i k : Nat} {W : World} (h : PT g cap i k W) (hk : k < cap) : PT g cap i (k + 1) (S4o W g (k * 4) e0 (-((i : Int) + 1)) e0 none 0 0) := by
  obtain ⟨cur, h1, h2⟩ := h.blk
  obtain ⟨ha, _⟩ := h.any
  refine ⟨⟨_, heap_set (heap_set (heap_set (heap_set h1 _ _) _ _) _ _) _ _, by simpa using h2⟩, fun j hj => ?_⟩
  obtain ⟨v0, a0⟩ := ha (k * 4) (by omega)
  obtain ⟨v1, a1⟩ := ha (k * 4 + 1) (by omega)
  obtain ⟨v2, a2⟩ := ha (k * 4 + 2) (by omega)
  obtain ⟨v3, a3⟩ := ha (k * 4 + 3) (by omega)
  by_cases hjk : j = k
  · subst hjk
    refine ⟨?_, ?_, ?_, ?_⟩
    · rw [cell_other (by omega), cell_other (by omega), cell_other (by omega)]; exact cell_same a0
    · rw [cell_other (by omega), cell_other (by omega)]; exact cell_same (by rw [cell_other (by omega)]; exact a1)
    · rw [cell_other (by omega)]; exact cell_same (by rw [cell_other (by omega), cell_other (by omega)]; exact a2)
    · exact cell_same (by rw [cell_other (by omega), cell_other (by omega), cell_other (by omega)]; exact a3)
  · obtain ⟨q0, q1, q2, q3⟩ := h.cells j (by omega)
    have hc : ∀ q v, W.cell? ⟨g, q, none⟩ = some v → (q < k * 4 ∨ k * 4 + 3 < q) → (S4o W g (k * 4) e0 (-((i : Int) + 1)) e0 none 0 0).cell? ⟨g, q, none⟩ = some v := fun q v hv hq => by
      rw [cell_other (by omega), cell_other (by omega), cell_other (by omega), cell_other (by omega)]; exact hv
    exact ⟨hc _ _ q0 (by omega), hc _ _ q1 (by omega), hc _ _ q2 (by omega), hc _ _ q3 (by omega)⟩
theorem PT.row {g cap n i : Nat} {W : World} (h : PT g cap i n W) (h1 : n ≤ cap) (h2 : cap ≤ 9223372036854775807) {D : Nat} (hD : D ≤ g) : ∃ xs, W.ownsRow D T 4 (.slice (some ⟨g, 0, none⟩) n cap) n xs ∧ Good i n (n, xs) := by
  obtain ⟨cur, h3, h4⟩ := h.blk
  refine ⟨cur.toList.take (n * 4), ⟨by simp [h4]; omega, .inr ⟨g, cap, cur, rfl, hD, h3, h1, by unfold maxLen; exact h2, h4, rfl⟩⟩, fun k hk => ?_⟩
  have hk : k < n := hk
  have hc : ∀ q v, W.cell? ⟨g, q, none⟩ = some v → q < n * 4 → (cur.toList.take (n * 4))[q]? = some v := fun q v hv hq => by
    rw [List.getElem?_take, if_pos hq]
    have : cur[q]? = some v := by simpa [World.cell?, h3] using hv
    simpa using this
  obtain ⟨q0, q1, q2, q3⟩ := h.cells k hk
  rw [if_pos hk]
  exact ⟨hc _ _ q0 (by omega), hc _ _ q1 (by omega), hc _ _ q2 (by omega), hc _ _ q3 (by omega)⟩
end Go.Proofs.Ytnphhibfiklfjaa

/-!
  What taking one list of trees leaves in the book.
-/
namespace Go.Proofs.Ytnphhibfiklfjaa

open Go.RowKit

theorem Lists.push3 {D te e s : Nat} {W W3 : World} {lv : Value} {vs : List Value} {cs : List (Nat × List Value)} (h : Lists D te e s W lv vs cs) (hte : te ≠ e) {v lv' : Value} {c : Nat × List Value} {B : Nat} {S : Nat → Prop}
    (hr : W.ownsRow B e s v c.1 c.2) (hat : ∀ b, v.ownBlock = some b → D ≤ b ∧ ¬ Lists.Blk lv vs b)
    (hrow : W3.ownsRow D te 1 lv' (vs.length + 1) (vs ++ [v])) (hg : Keeps S W W3) (hS : ∀ b, S b → lv.ownBlock = some b ∨ (¬ Lists.Blk lv vs b ∧ v.ownBlock ≠ some b)) :
    Lists D te e s W3 lv' (vs ++ [v]) (cs ++ [c]) := by
  have hget : ∀ (i : Nat) (u : Value), (vs ++ [v])[i]? = some u → (i < vs.length ∧ vs[i]? = some u) ∨ (i = vs.length ∧ u = v) := fun i u hu => by
    by_cases hi : i < vs.length
    · rw [List.getElem?_append_left hi] at hu
      exact .inl ⟨hi, hu⟩
    · have hi2 := (List.getElem?_eq_some_iff.1 hu).1
      have hi3 : i = vs.length := by simp at hi2; omega
      subst hi3
      rw [List.getElem?_append_right (Nat.le_refl _), Nat.sub_self] at hu
      exact .inr ⟨rfl, by simpa using hu.symm⟩
  have hold : ∀ (i : Nat) (u : Value) (b : Nat), vs[i]? = some u → u.ownBlock = some b → W3.heap[b]? = W.heap[b]? := fun i u b hu hb => by
    have h1 := h.lo (.inr ⟨u, List.mem_of_getElem? hu, hb⟩)
    exact hg.block b h1.2 (fun e => by
      rcases hS b e with h2 | h2
      · exact h.ne_row hte hu hb h2
      · exact h2.1 (.inr ⟨u, List.mem_of_getElem? hu, hb⟩))
  have hnew : ∀ b, v.ownBlock = some b → W3.heap[b]? = W.heap[b]? := fun b hb => by
    have h1 := (hr.lt b hb).2
    exact hg.block b h1 (fun e => by
      rcases hS b e with h2 | h2
      · exact (hat b hb).2 (.inl h2)
      · exact h2.2 hb)
  refine ⟨by simpa using hrow, by simp [h.len], fun i u d hu hd => ?_, fun i j u u' b hu hu' hb hb' => ?_⟩
  · rcases hget i u hu with ⟨hi, hu⟩ | ⟨rfl, rfl⟩
    · rw [List.getElem?_append_left (by rw [h.len]; exact hi)] at hd
      exact ownsRow_same (h.rows i u d hu hd) (fun b hm => hold i u b hu (by simpa using hm))
    · rw [List.getElem?_append_right (by rw [h.len]; exact Nat.le_refl _), h.len, Nat.sub_self] at hd
      simp only [List.getElem?_cons_zero, Option.some.injEq] at hd
      subst hd
      have h1 := ownsRow_same hr (fun b hm => hnew b (by simpa using hm))
      exact ⟨h1.1, h1.2.imp id (fun ⟨g, cap, cur, a, _, z⟩ => ⟨g, cap, cur, a, (hat g (by rw [a]; rfl)).1, z⟩)⟩
  · rcases hget i u hu with ⟨hi, h1⟩ | ⟨rfl, rfl⟩
    · rcases hget j u' hu' with ⟨hj, h2⟩ | ⟨rfl, rfl⟩
      · exact h.apart i j u u' b h1 h2 hb hb'
      · exact absurd (.inr ⟨u, List.mem_of_getElem? h1, hb⟩) (hat b hb').2
    · rcases hget j u' hu' with ⟨hj, h2⟩ | ⟨rfl, rfl⟩
      · exact absurd (.inr ⟨u', List.mem_of_getElem? h2, hb'⟩) (hat b hb).2
      · rfl
/-- A row of numbers lies apart from lists of lists of trees. -/
theorem Lists.neInt {D te e s : Nat} {W : World} {lv nv : Value} {vs : List Value} {cs : List (Nat × List Value)} (h : Lists D te e s W lv vs cs) {D' n : Nat} {xs : List Value} (hn : W.ownsRow D' 3 1 nv n xs) (h1 : 3 ≠ te) (h2 : 3 ≠ e) {b : Nat} (hb : nv.ownBlock = some b) : ¬ Lists.Blk lv vs b := fun e => by
  rcases e with e | ⟨v, hv, e⟩
  · exact rows_ne hn h.row h1 hb e
  · obtain ⟨i, hi⟩ := List.getElem?_of_mem hv
    obtain ⟨v', c, h4, _, h3⟩ := h.at_ (List.getElem?_eq_some_iff.1 hi).1
    rw [hi] at h4
    simp only [Option.some.injEq] at h4
    subst h4
    exact rows_ne hn h3 h2 hb e
theorem push_cell2 {V w3 : World} {pb i D e s n gg cap : Nat} {cs : Array Value} {TT : TypeId} {v : Value} {xs news : List Value} {o : Obj} (hbox : V.heap[pb]? = some (.cells cs TT (0, 0))) (hte : e ≠ TT) (hv : V.ownsRow D e s v n xs) (hg : (V.alloc o).grownBy w3 v.ownBlock)
    (hr : w3.ownsRow D e s (.slice (some ⟨gg, 0, none⟩) (n + 1) cap) (n + 1) (xs ++ news)) :
    (w3.setCell ⟨pb, i, none⟩ (.slice (some ⟨gg, 0, none⟩) (n + 1) cap)).heap[pb]? = some (.cells (cs.setIfInBounds i (.slice (some ⟨gg, 0, none⟩) (n + 1) cap)) TT (0, 0)) ∧
    (w3.setCell ⟨pb, i, none⟩ (.slice (some ⟨gg, 0, none⟩) (n + 1) cap)).ownsRow D e s (.slice (some ⟨gg, 0, none⟩) (n + 1) cap) (n + 1) (xs ++ news) ∧
    Keeps (fun b => b = pb ∨ v.ownBlock = some b) V (w3.setCell ⟨pb, i, none⟩ (.slice (some ⟨gg, 0, none⟩) (n + 1) cap)) := by
  have hne : v.ownBlock ≠ some pb := row_ty hbox hv hte
  have hk : Keeps (fun b => b = pb ∨ v.ownBlock = some b) V w3 := ((Keeps.refl _ V).alloc o).grown hg (fun k hk _ => .inr hk)
  have hb3 : w3.heap[pb]? = some (.cells cs TT (0, 0)) := by
    rw [hg.block pb (by have := heap_lt hbox; simp; omega) (fun h => hne h.symm), Below.heap_alloc _ _ _ (heap_lt hbox)]
    exact hbox
  refine ⟨heap_set hb3 _ _, ownsRow_same hr (fun b hb => ?_), hk.setCell (p := ⟨pb, i, none⟩) (fun _ => .inl rfl) _⟩
  have hb' : b = gg := by simpa [Value.ownBlock] using hb
  subst hb'
  exact Below.heap_setCell _ _ _ _ (fun e2 => row_ty hb3 hr hte (by have e2 : b = pb := e2; rw [e2]; rfl))
theorem take4_done {D pb : Nat} {lv nv kv : Value} {sz : Int} {vs : List Value} {cs : List (Nat × List Value)} {ns : List Nat} {V V1 V2 W : World} {g n cap : Nat} {xs : List Value} {g1 c1 g2 c2 : Nat} (h : B4 D pb V lv nv sz kv vs cs ns)
    (hx : V.ownsRow 0 T 4 (.slice (some ⟨g, 0, none⟩) n cap) n xs) (hgD : D ≤ g) (hgB : ¬ B4.Blk pb lv nv vs g) (hn : n ≤ 200000)
    (hb2 : V2.heap[pb]? = some (.cells #[.slice (some ⟨g1, 0, none⟩) (vs.length + 1) c1, .slice (some ⟨g2, 0, none⟩) (vs.length + 1) c2, .int .i64 sz, kv] T4 (0, 0)))
    (hr1 : V1.ownsRow D TL 1 (.slice (some ⟨g1, 0, none⟩) (vs.length + 1) c1) (vs.length + 1) (vs ++ [.slice (some ⟨g, 0, none⟩) n cap])) (hk1 : Keeps (fun b => b = pb ∨ lv.ownBlock = some b) V V1) (hat1 : lv.ownBlock = some g1 ∨ V.heap.size ≤ g1)
    (hr2 : V2.ownsRow D 3 1 (.slice (some ⟨g2, 0, none⟩) (vs.length + 1) c2) (vs.length + 1) ((ns.map fun n : Nat => .int .i64 (n : Int)) ++ [.int .i64 (n : Int)])) (hk2 : Keeps (fun b => b = pb ∨ nv.ownBlock = some b) V1 V2) (hat2 : nv.ownBlock = some g2 ∨ V1.heap.size ≤ g2)
    (hP : PT g cap vs.length n W) (hk3 : Keeps (fun b => b = g) V2 W) :
    (∃ cs', B4 D pb W (.slice (some ⟨g1, 0, none⟩) (vs.length + 1) c1) (.slice (some ⟨g2, 0, none⟩) (vs.length + 1) c2) sz kv (vs ++ [.slice (some ⟨g, 0, none⟩) n cap]) cs' (ns ++ [n]) ∧ ∀ c ∈ cs', c ∈ cs ∨ c.1 = n) ∧ Keeps (fun b => B4.Blk pb lv nv vs b ∨ b = g) V W ∧
      ∀ b, B4.Blk pb (.slice (some ⟨g1, 0, none⟩) (vs.length + 1) c1) (.slice (some ⟨g2, 0, none⟩) (vs.length + 1) c2) (vs ++ [.slice (some ⟨g, 0, none⟩) n cap]) b → B4.Blk pb lv nv vs b ∨ b = g ∨ V.heap.size ≤ b := by
  have hgV : g < V.heap.size := (hx.lt g rfl).2
  have s1 := hk1.size
  have s2 := hk2.size
  have hcap := (ownsRow_caps hx)
  have hS1 : ∀ b, (b = pb ∨ lv.ownBlock = some b) → lv.ownBlock = some b ∨ (¬ Lists.Blk lv vs b ∧ (Value.slice (some ⟨g, 0, none⟩) n cap).ownBlock ≠ some b) := fun b hb => by
    rcases hb with hb | hb
    · subst hb
      exact .inr ⟨h.pbne.1, fun e2 => hgB (.inl (by simpa [Value.ownBlock] using e2))⟩
    · exact .inl hb
  have hL1 : Lists D TL T 4 V1 (.slice (some ⟨g1, 0, none⟩) (vs.length + 1) c1) (vs ++ [.slice (some ⟨g, 0, none⟩) n cap]) (cs ++ [(n, xs)]) :=
    h.lists.push3 (by decide) hx (fun b hb => by
      have e : g = b := by simpa [Value.ownBlock] using hb
      subst e
      exact ⟨hgD, fun e => hgB (.inr (.inl e))⟩) hr1 hk1 hS1
  have hpL1 : ¬ Lists.Blk (.slice (some ⟨g1, 0, none⟩) (vs.length + 1) c1) (vs ++ [.slice (some ⟨g, 0, none⟩) n cap]) pb := fun e => by
    have hpV := heap_lt h.box
    rcases e with e | ⟨u, hu, e⟩
    · have e : g1 = pb := by simpa [Value.ownBlock] using e
      rcases hat1 with h1 | h1
      · exact h.pbne.1 (.inl (by rw [← e]; exact h1))
      · omega
    · rcases List.mem_append.1 hu with hu | hu
      · exact h.pbne.1 (.inr ⟨u, hu, e⟩)
      · simp only [List.mem_singleton] at hu
        subst hu
        have e : g = pb := by simpa [Value.ownBlock] using e
        exact hgB (.inl e)
  have hnv1 : V1.ownsRow D 3 1 nv vs.length (ns.map fun n : Nat => .int .i64 (n : Int)) := ownsRow_same h.lens (fun b hb => by
    have hb : nv.ownBlock = some b := by simpa using hb
    have := h.lens.lt b hb
    exact hk1.block b this.2 (fun e => e.elim (fun e => h.pbne.2 (by have e : b = pb := e; rwa [e] at hb)) (fun e => h.nvne hb (.inl e))))
  have hL2 := hL1.keeps hk2 (fun b hb e => hb.elim (fun hb => hpL1 (by have hb : b = pb := hb; rwa [hb] at e)) (fun hb => hL1.neInt hnv1 (by decide) (by decide) hb e))
  have hv1 : (vs ++ [Value.slice (some ⟨g, 0, none⟩) n cap])[vs.length]? = some (.slice (some ⟨g, 0, none⟩) n cap) := by simp
  have hc1 : (cs ++ [(n, xs)])[vs.length]? = some (n, xs) := by rw [List.getElem?_append_right (by rw [h.lists.len]; exact Nat.le_refl _), h.lists.len, Nat.sub_self]; rfl
  obtain ⟨xs', hrw, hgood⟩ := hP.row hcap.2.1 hcap.2.2.1 hgD
  have hk3' : Keeps (fun b => (Value.slice (some ⟨g, 0, none⟩) n cap).ownBlock = some b) V2 W := hk3.mono (fun b hb _ => by rw [hb]; rfl)
  have hLW := hL2.write (by decide) (c' := (n, xs')) hv1 hc1 hk3' hrw
  have hg2 : g2 ≠ g := fun e => by
    rcases hat2 with h1 | h1
    · exact hgB (.inr (.inr (by rw [← e]; exact h1)))
    · omega
  refine ⟨⟨_, ⟨(hk3.block _ (heap_lt hb2) (fun e => hgB (.inl e.symm))).trans hb2, hLW, by simp [h.nlen], ?_, fun i m c hm hc => ?_⟩, fun c hc => ?_⟩, ?_, fun b hb => ?_⟩
  rotate_left 2
  · rcases List.mem_or_eq_of_mem_set hc with hc | hc
    · rcases List.mem_append.1 hc with hc | hc
      · exact .inl hc
      · simp only [List.mem_singleton] at hc
        exact .inr (by rw [hc])
    · exact .inr (by rw [hc])
  rotate_left 2
  · rw [List.map_append, List.length_append]
    refine ownsRow_same hr2 (fun b hb => ?_)
    have e : b = g2 := by simpa [Value.ownBlock] using hb
    subst e
    exact hk3.block b (hr2.lt b rfl).2 hg2
  · by_cases hi : i < vs.length
    · rw [List.getElem?_append_left (by rw [h.nlen]; exact hi)] at hm
      rw [List.getElem?_set_ne (by omega), List.getElem?_append_left (by rw [h.lists.len]; exact hi)] at hc
      exact h.good i m c hm hc
    · have hi2 := (List.getElem?_eq_some_iff.1 hm).1
      have hi3 : i = vs.length := by rw [List.length_append, h.nlen] at hi2; simp at hi2; omega
      subst hi3
      rw [List.getElem?_append_right (by rw [h.nlen]; exact Nat.le_refl _), h.nlen, Nat.sub_self] at hm
      rw [List.getElem?_set_self (by rw [List.length_append, h.lists.len]; simp)] at hc
      simp only [List.getElem?_cons_zero, Option.some.injEq] at hm hc
      subst hm hc
      exact ⟨Nat.le_refl _, hn, hgood⟩
  · exact (((hk1.mono (S' := fun b => B4.Blk pb lv nv vs b ∨ b = g) (fun b hb _ => .inl (hb.imp_right fun e => .inl (.inl e)))).trans (hk2.mono (S' := fun b => B4.Blk pb lv nv vs b ∨ b = g) (fun b hb _ => .inl (hb.imp_right .inr)))).trans (hk3.mono (S' := fun b => B4.Blk pb lv nv vs b ∨ b = g) (fun b hb _ => .inr hb)))
  · rcases hb with rfl | (hb | ⟨u, hu, hb⟩) | hb
    · exact .inl (.inl rfl)
    · have e : g1 = b := by simpa [Value.ownBlock] using hb
      subst e
      rcases hat1 with h1 | h1
      · exact .inl (.inr (.inl (.inl h1)))
      · exact .inr (.inr h1)
    · rcases List.mem_append.1 hu with hu | hu
      · exact .inl (.inr (.inl (.inr ⟨u, hu, hb⟩)))
      · simp only [List.mem_singleton] at hu
        subst hu
        have e : g = b := by simpa [Value.ownBlock] using hb
        exact .inr (.inl e.symm)
    · have e : g2 = b := by simpa [Value.ownBlock] using hb
      subst e
      rcases hat2 with h1 | h1
      · exact .inl (.inr (.inr h1))
      · exact .inr (.inr (by omega))
end Go.Proofs.Ytnphhibfiklfjaa
