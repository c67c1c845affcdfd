/-
  (*espalierlaw4.Book).Take: its walk; the book while its lists are grown.
  Merged texts: XTake4, XWhole4P.
-/
import Derived.Test.YtnphhibfiklfjaaPkQ

import Derived.Test.YtnphhibfiklfjaaPkP

import Derived.Deep.RegionHeld3

import Derived.Deep.RegionLaw

import Derived.StillTailTactics

import Derived.Deep.AppendLies

import Derived.BigRegion

import Derived.IntWalk

set_option linter.unusedVariables false

set_option linter.unusedSimpArgs false

/-!
  (*espalierlaw4.Book).Take: its walk.
-/
namespace Go.Proofs.Ytnphhibfiklfjaa

open Go.RowKit

theorem Try.intInfo4 : (Try.prog.info? 3).map (fun i => (i.zero, i.size, i.bytes)) = some (some (.int .i64 0), 1, 8) := by kernel_rfl
/-- What taking lists leaves. -/
def TakeR4 (D pb : Nat) (lv nv : Value) (sz : Int) (kv : Value) (vs : List Value) (bs : List Nat) (w W : World) : Prop :=
  ∃ lv' nv' sz' vs' cs' ns', B4 D pb W lv' nv' sz' kv vs' cs' ns' ∧ 0 ≤ sz' ∧ sz' ≤ sz + 30000000 * (bs.length : Int) ∧ vs'.length ≤ vs.length + bs.length ∧ (∀ c ∈ cs', c.1 ≤ 200000) ∧ Keeps (fun b => B4.Blk pb lv nv vs b ∨ b ∈ bs) w W ∧
    ∀ b, B4.Blk pb lv' nv' vs' b → B4.Blk pb lv nv vs b ∨ b ∈ bs ∨ w.heap.size ≤ b
/-- Behind j of the lists. -/
structure L2 (D pb : Nat) (lv nv : Value) (sz : Int) (kv : Value) (vs : List Value) (bs bs1 : List Nat) (l : Value) (ll : Nat) (vs1 : List Value) (w : World) (j : Nat) (lv' nv' : Value) (sz' : Int) (vs' : List Value) (cs' : List (Nat × List Value)) (ns' : List Nat) (W : World) : Prop where
  bk : B4 D pb W lv' nv' sz' kv vs' cs' ns'
  s0 : 0 ≤ sz'
  s1 : sz' ≤ sz + 30000000 * (j : Int)
  len : vs'.length ≤ vs.length + j
  sm : ∀ c ∈ cs', c.1 ≤ 200000
  keeps : Keeps (fun b => B4.Blk pb lv nv vs b ∨ b ∈ bs) w W
  fresh : ∀ b, B4.Blk pb lv' nv' vs' b → B4.Blk pb lv nv vs b ∨ b ∈ bs1.take j ∨ w.heap.size ≤ b
  apart : ∀ b, l.ownBlock = some b → ¬ B4.Blk pb lv' nv' vs' b
  row : W.ownsRow D TL 1 l ll vs1
  rest : ∀ b ∈ bs1.drop j, W.heap[b]? = w.heap[b]?
theorem L2.step {D pb : Nat} {lv nv kv : Value} {sz : Int} {vs : List Value} {bs bs1 : List Nat} {l : Value} {ll : Nat} {vs1 : List Value} {w W W2 : World} {i : Nat} {lv' nv' lv2 nv2 : Value} {sz' sz2 : Int} {vs' vs2 : List Value} {cs' cs2 : List (Nat × List Value)} {ns' ns2 : List Nat}
    (h : L2 D pb lv nv sz kv vs bs bs1 l ll vs1 w i lv' nv' sz' vs' cs' ns' W) {g : Nat} (hg : bs1[i]? = some g) (hsub : bs1.Sublist bs) (hnd : bs1.Nodup) (hlow : ∀ b ∈ bs, b < w.heap.size) (hbs : ∀ b ∈ bs, D ≤ b ∧ ¬ B4.Blk pb lv nv vs b) (hll : ∀ b, l.ownBlock = some b → w.heap.size ≤ b)
    (hbk : B4 D pb W2 lv2 nv2 sz2 kv vs2 cs2 ns2) (h0 : 0 ≤ sz2) (h1 : sz2 ≤ sz' + 30000000) (hlen : vs2.length ≤ vs'.length + 1) (hsm : ∀ c ∈ cs2, c.1 ≤ 200000) (hk : Keeps (fun b => B4.Blk pb lv' nv' vs' b ∨ b = g) W W2)
    (hfr : ∀ b, B4.Blk pb lv2 nv2 vs2 b → B4.Blk pb lv' nv' vs' b ∨ b = g ∨ W.heap.size ≤ b) :
    L2 D pb lv nv sz kv vs bs bs1 l ll vs1 w (i + 1) lv2 nv2 sz2 vs2 cs2 ns2 W2 := by
  have hgi : i < bs1.length := (List.getElem?_eq_some_iff.1 hg).1
  have hgm : g ∈ bs := hsub.subset (List.mem_of_getElem? hg)
  have htake : bs1.take (i + 1) = bs1.take i ++ [g] := by rw [List.take_add_one, hg]; rfl
  have hdrop : bs1.drop i = g :: bs1.drop (i + 1) := by rw [List.drop_eq_getElem_cons hgi, (List.getElem?_eq_some_iff.1 hg).2]
  have hnd2 : (bs1.take (i + 1) ++ bs1.drop (i + 1)).Nodup := by rw [List.take_append_drop]; exact hnd
  have hs := h.keeps.size
  have hlg : ∀ b, l.ownBlock = some b → b ≠ g := fun b hb e => by have := hll b hb; have := hlow g hgm; omega
  refine ⟨hbk, h0, by have := h.s1; omega, by have := h.len; omega, hsm, h.keeps.trans' hk (fun b hb hl => ?_), fun b hb => ?_, fun b hb e => ?_, ownsRow_same h.row (fun b hb => ?_), fun b hb => ?_⟩
  · rcases hb with hb | hb
    · rcases h.fresh b hb with h2 | h2 | h2
      · exact .inl h2
      · exact .inr (hsub.subset (List.mem_of_mem_take h2))
      · omega
    · rw [hb]; exact .inr hgm
  · rw [htake]
    rcases hfr b hb with h2 | h2 | h2
    · exact (h.fresh b h2).imp_right (fun h3 => h3.imp_left fun h3 => List.mem_append.2 (.inl h3))
    · exact .inr (.inl (List.mem_append.2 (.inr (by rw [h2]; exact List.mem_singleton.2 rfl))))
    · exact .inr (.inr (by omega))
  · rcases hfr b e with h2 | h2 | h2
    · exact h.apart b hb h2
    · exact hlg b hb h2
    · have := (h.row.lt b hb).2; omega
  · have hb : l.ownBlock = some b := by simpa using hb
    exact hk.block b (h.row.lt b hb).2 (fun e => e.elim (h.apart b hb) (hlg b hb))
  · have hb2 : b ∈ bs1 := List.mem_of_mem_drop hb
    have hbb := hsub.subset hb2
    have h3 := hlow b hbb
    rw [hk.block b (by omega) (fun e => ?_), h.rest b (by rw [hdrop]; exact List.mem_cons_of_mem _ hb)]
    have hnt : b ∉ bs1.take (i + 1) := fun e => (List.nodup_append.1 hnd2).2.2 b e b hb rfl
    rcases e with e | e
    · rcases h.fresh b e with h2 | h2 | h2
      · exact (hbs b hbb).2 h2
      · exact hnt (by rw [htake]; exact List.mem_append.2 (.inl h2))
      · omega
    · exact hnt (by rw [htake, e]; exact List.mem_append.2 (.inr (List.mem_singleton.2 rfl)))
theorem L2.free {D pb : Nat} {lv nv kv : Value} {sz : Int} {vs : List Value} {bs bs1 : List Nat} {l : Value} {ll : Nat} {vs1 : List Value} {w W : World} {i : Nat} {lv' nv' : Value} {sz' : Int} {vs' : List Value} {cs' : List (Nat × List Value)} {ns' : List Nat}
    (h : L2 D pb lv nv sz kv vs bs bs1 l ll vs1 w i lv' nv' sz' vs' cs' ns' W) {g : Nat} (hg : bs1[i]? = some g) (hsub : bs1.Sublist bs) (hnd : bs1.Nodup) (hlow : ∀ b ∈ bs, b < w.heap.size) (hbs : ∀ b ∈ bs, D ≤ b ∧ ¬ B4.Blk pb lv nv vs b) :
    D ≤ g ∧ ¬ B4.Blk pb lv' nv' vs' g ∧ W.heap[g]? = w.heap[g]? := by
  have hgi : i < bs1.length := (List.getElem?_eq_some_iff.1 hg).1
  have hgm : g ∈ bs := hsub.subset (List.mem_of_getElem? hg)
  have hdrop : bs1.drop i = g :: bs1.drop (i + 1) := by rw [List.drop_eq_getElem_cons hgi, (List.getElem?_eq_some_iff.1 hg).2]
  have hnd2 : (bs1.take i ++ bs1.drop i).Nodup := by rw [List.take_append_drop]; exact hnd
  have hgd : g ∈ bs1.drop i := by rw [hdrop]; exact List.mem_cons_self ..
  refine ⟨(hbs g hgm).1, fun e => ?_, h.rest g hgd⟩
  rcases h.fresh g e with h2 | h2 | h2
  · exact (hbs g hgm).2 h2
  · exact (List.nodup_append.1 hnd2).2.2 g h2 g hgd rfl
  · have := hlow g hgm; omega
/-- The list of lists is one longer. -/
def GrL4 (D pb : Nat) (vs : List Value) (x lv nv : Value) (sz : Int) (kv : Value) (V W : World) : Prop := ∃ g1 c1, W.heap[pb]? = some (.cells #[.slice (some ⟨g1, 0, none⟩) (vs.length + 1) c1, nv, .int .i64 sz, kv] T4 (0, 0)) ∧
  W.ownsRow D TL 1 (.slice (some ⟨g1, 0, none⟩) (vs.length + 1) c1) (vs.length + 1) (vs ++ [x]) ∧ Keeps (fun b => b = pb ∨ lv.ownBlock = some b) V W ∧ (lv.ownBlock = some g1 ∨ V.heap.size ≤ g1)
/-- The list of lengths is one longer. -/
def GrN4 (D pb : Nat) (ns : List Nat) (m n : Nat) (l1 nv : Value) (sz : Int) (kv : Value) (V W : World) : Prop := ∃ g1 c1, W.heap[pb]? = some (.cells #[l1, .slice (some ⟨g1, 0, none⟩) (m + 1) c1, .int .i64 sz, kv] T4 (0, 0)) ∧
  W.ownsRow D 3 1 (.slice (some ⟨g1, 0, none⟩) (m + 1) c1) (m + 1) ((ns.map fun n : Nat => .int .i64 (n : Int)) ++ [.int .i64 (n : Int)]) ∧ Keeps (fun b => b = pb ∨ nv.ownBlock = some b) V W ∧ (nv.ownBlock = some g1 ∨ V.heap.size ≤ g1)
set_option maxRecDepth 100000 in
set_option maxHeartbeats 6400000 in
theorem take4_any (D pb : Nat) (lv nv kv : Value) (sz : Int) (vs : List Value) (cs : List (Nat × List Value)) (ns : List Nat) (f : Fo) (tp : Option Addr) (tl tc : Nat) (xs : List Value) (bs : List Nat) (w : World) (h : B4 D pb w lv nv sz kv vs cs ns) (hDw : D ≤ w.heap.size)
    (ht : w.ownsRow 0 T 4 (.slice tp tl tc) tl xs) (hf : f.len = tl) (hrep : RowRep w f xs bs) (hnd : bs.Nodup) (hbs : ∀ b ∈ bs, D ≤ b ∧ ¬ B4.Blk pb lv nv vs b) (hfn : f.nodes ≤ 199999) (hvl : vs.length + bs.length ≤ 4000000) (hsz0 : 0 ≤ sz) (hsz1 : sz ≤ 281474976710656) (hsm : ∀ c ∈ cs, c.1 ≤ 200000) :
    Calls Try.prog 29 #[.pointer (some ⟨pb, 0, none⟩), .slice tp tl tc] w fun e w' => (∃ u, e = .returned u) ∧ TakeR4 D pb lv nv sz kv vs bs w w' := by
  obtain ⟨_, htc, htm, had⟩ := ownsRow_caps ht
  have hlow : ∀ b ∈ bs, b < w.heap.size := fun b hb => by obtain ⟨cur, hh⟩ := hrep.shape b hb; exact heap_lt hh
  have htn : tl ≤ 200000 := by have := Fo.len_nodes f; omega
  have HB := Lib.hid h
  have HT := Lib.hid ht
  have HF := Lib.hid hf
  have HREP := Lib.hid hrep
  have HND := Lib.hid hnd
  have HBS := Lib.hid hbs
  have HLOW := Lib.hid hlow
  have HAD := Lib.hid had
  have HSMC := Lib.hid hsm
  clear hsm h ht hf hrep hnd hbs hlow had
  go_enter Try.func29, Try.ntmps29
  go_wp2_with fail
  go_loopg [4, 5] tl (fun m v i W => ∃ j : Nat, j + m = tl ∧ i = .int .i64 j ∧ ∃ bs0 bs', bs = bs0 ++ bs' ∧ RowRep w (f.drop j) (xs.drop (j * 4)) bs' ∧ LstR D none 0 0 [] bs0 w W v)
  case atStart => exact ⟨0, by omega, rfl, [], bs, rfl, by rw [show Fo.drop 0 f = f by cases f <;> rfl]; simpa using HREP.out, none, 0, 0, [], [], rfl, World.ownsRow_nil _ _ _ _, rfl, List.nil_sublist _, rfl, Keeps.refl _ _, fun b hb => .inl hb⟩
  case round =>
    obtain ⟨w5, hw5⟩ : ∃ X, X = wr := ⟨_, rfl⟩
    subst hw5
    obtain ⟨j, hjm, rfl, bs0, bs', hbs, hrp, lp', ll', lc', vs1, bsx, rfl, hr', hKL, hsub, hlen, hkl, hfr⟩ := hrel
    have hk05 : Keeps (fun _ => False) w w5 := hkl.mono fun b hb _ => by simp [Value.ownBlock] at hb
    have HJ := Lib.hid hjm
    have HK := Lib.hid hk05
    have HKL2 := Lib.hid hkl
    have hsame : ∀ b ∈ bs, w5.heap[b]? = w.heap[b]? := fun b hb => hk05.block b (HLOW.out b hb) (fun h => h)
    have HSM := Lib.hid hsame
    have hj0 : (0 : Int) ≤ (j : Int) := Int.natCast_nonneg _
    clear hjm hkl hsame hk05
    by_cases hlt : j < tl
    · obtain ⟨g, rfl⟩ := HAD.out (by omega)
      have hrj : w5.ownsRow 0 T 4 (.slice (some ⟨g, 0, none⟩) tl tc) tl xs := ownsRow_same HT.out (fun b hb => HK.out.block b (HT.out.lt b (by simpa using hb)).2 (fun h => h))
      obtain ⟨k1, n1, t1, s1, r1, hdr⟩ := Fo.drop_lt j f (by rw [HF.out]; exact hlt)
      rw [hdr] at hrp
      obtain ⟨cp1, cl1, cc1, ys1, bsa, ys2, bsb, hy, hbb, hsz, hrowk, hrepk, hrest⟩ := hrp
      have hcells : ∀ d v, (xs.drop (j * 4))[d]? = some v → w5.cell? ⟨g, j * 4 + d, none⟩ = some v := fun d v hd => ownsRow_cellAt hrj (by rwa [List.getElem?_drop] at hd)
      rw [hy] at hcells
      have a0 : w5.cell? ⟨g, j * 4, none⟩ = some (.string k1) := hcells 0 _ rfl
      have a1 : w5.cell? ⟨g, j * 4 + 1, none⟩ = some (.int .i64 n1) := hcells 1 _ rfl
      have a2 : w5.cell? ⟨g, j * 4 + 2, none⟩ = some (.string t1) := hcells 2 _ rfl
      have a3 : w5.cell? ⟨g, j * 4 + 3, none⟩ = some (.slice cp1 cl1 cc1) := hcells 3 _ rfl
      have hin : ∀ b ∈ sb cp1 cl1 cc1 ++ bsa, b ∈ bs := fun b hb => by rw [hbs, hbb]; exact List.mem_append.2 (.inr (List.mem_append.2 (.inl hb)))
      have hOk : Own w5 s1 cp1 cl1 cc1 (sb cp1 cl1 cc1 ++ bsa) := Own.same ⟨ys1, bsa, hrowk, hrepk, rfl⟩ (fun b hb => HSM.out b (hin b hb))
      have hlens : ll' + (sb cp1 cl1 cc1 ++ bsa).length ≤ 4000000 := by
        have h1 := hKL.len
        have h2 := hsub.length_le
        rw [hbs, hbb] at hvl
        simp only [List.length_append] at h2 hvl ⊢
        omega
      have hz := lists_any D (s1.nodes + 1) (by have := Tv.kidNodes hdr; omega) k1 n1 t1 s1 cp1 cl1 cc1 (sb cp1 cl1 cc1 ++ bsa) lp' ll' lc' ([] ++ vs1) w5 (by omega) hOk hr' hlens (by have := HK.out.size; omega)
      have hi1 : (j : Int) < (tl : Int) := by omega
      have hnext : Hid (∀ W2 v2, LstR D lp' ll' lc' ([] ++ vs1) (sb cp1 cl1 cc1 ++ bsa) w5 W2 v2 → ∃ bs0 bs', bs = bs0 ++ bs' ∧ RowRep w (f.drop (j + 1)) (xs.drop ((j + 1) * 4)) bs' ∧ LstR D none 0 0 [] bs0 w W2 v2) := Lib.hid fun W2 v2 h2 => by
        refine ⟨bs0 ++ (sb cp1 cl1 cc1 ++ bsa), bsb, by rw [hbs, hbb]; simp only [List.append_assoc], ?_, LstR.step HKL2.out hfr hKL hsub hlen (fun b hb => HSM.out b (hin b hb)) h2⟩
        have e2 : xs.drop ((j + 1) * 4) = ys2 := by
          have : xs.drop ((j + 1) * 4) = (xs.drop (j * 4)).drop 4 := by rw [List.drop_drop]; congr 1; omega
          rw [this, hy]
          rfl
        rw [Fo.drop_step hdr, e2]
        exact hrest
      clear hrowk hrepk hrest hcells hy hbb hbs hsz hdr hrj hin hOk hlens hKL hsub hlen hfr hr'
      go_wp2_with fail
      refine hz.mono ?_
      clear hz a0 a1 a2 a3
      rintro e W2 ⟨v2, rfl, hk2⟩
      have HK2 := Lib.hid hk2
      clear hk2
      go_wp2_with fail
      go_roundg (gk - 1)
      case measure => have := HJ.out; omega
      case rel => exact ⟨j + 1, by have := HJ.out; omega, by go_num, hnext.out _ _ HK2.out⟩
    · have hsub2 : bsx.Sublist bs := hsub.trans (by rw [hbs]; exact List.sublist_append_left _ _)
      have hll : ll' = vs1.length := by omega
      have hbl : vs1.length ≤ bs.length := by rw [hKL.len]; exact hsub2.length_le
      have hndx : bsx.Nodup := HND.out.sublist hsub2
      have hlv : ∀ b, (Value.slice lp' ll' lc').ownBlock = some b → w.heap.size ≤ b := fun b hb => by
        rcases hfr b hb with h | h
        · simp [Value.ownBlock] at h
        · exact h
      have h0 : L2 D pb lv nv sz kv vs bs bsx (.slice lp' ll' lc') ll' vs1 w 0 lv nv sz vs cs ns w5 :=
        ⟨HB.out.next HK.out, hsz0, by omega, by omega, HSMC.out, HK.out.mono (fun _ h _ => h.elim), fun b hb => .inl hb, fun b hb e => by have := HB.out.lt e; have := hlv b hb; omega, hr', fun b hb => HSM.out b (hsub2.subset (List.mem_of_mem_drop hb))⟩
      have HL0 := Lib.hid h0
      have HKL := Lib.hid hKL
      have HSUB := Lib.hid hsub2
      have HNDX := Lib.hid hndx
      have HLV := Lib.hid hlv
      have HLL := Lib.hid hll
      have hllz : ll' ≤ 4000000 := by omega
      clear h0 hKL hsub2 hndx hlv hll hrp hbs hr' hsub hlen hfr
      go_wp2_with fail
      go_loopg [6] ll' (fun m i W => ∃ j : Nat, j + m = ll' ∧ i = .int .i64 j ∧ ∃ lv' nv' sz' vs' cs' ns', L2 D pb lv nv sz kv vs bs bsx (.slice lp' ll' lc') ll' vs1 w j lv' nv' sz' vs' cs' ns' W)
      case atStart => exact ⟨0, by omega, rfl, lv, nv, sz, vs, cs, ns, HL0.out⟩
      case round =>
        obtain ⟨w7, hw7⟩ : ∃ X, X = wr := ⟨_, rfl⟩
        subst hw7
        obtain ⟨i, him, rfl, lv', nv', sz', vs', cs', ns', hL⟩ := hrel
        have HI := Lib.hid him
        have hi0 : (0 : Int) ≤ (i : Int) := Int.natCast_nonneg _
        clear him
        by_cases hil : i < ll'
        · obtain ⟨v, hv⟩ : ∃ v, vs1[i]? = some v := ⟨_, List.getElem?_eq_getElem (by have := HLL.out; omega)⟩
          obtain ⟨g, n, cap, ys, hg, rfl, hrw, hn⟩ := HKL.out.at_ hv
          have hrw : w.ownsRow 0 T 4 (.slice (some ⟨g, 0, none⟩) n cap) n ys := hrw
          have hkw : ∀ b, b < w.heap.size → w5.heap[b]? = w.heap[b]? := fun b hb => HK.out.block b hb (fun h => h)
          obtain ⟨hgD, hgB, hgw⟩ := hL.free hg HSUB.out HNDX.out HLOW.out HBS.out
          have hrw7 : w7.ownsRow 0 T 4 (.slice (some ⟨g, 0, none⟩) n cap) n ys := ownsRow_same hrw (fun b hb => by
            have e : b = g := by simpa [Value.ownBlock] using hb
            subst e
            exact hgw)
          obtain ⟨_, hncap, hcapm, _⟩ := ownsRow_caps hrw7
          obtain ⟨gl, rfl⟩ : ∃ gl, lp' = some ⟨gl, 0, none⟩ := by
            obtain ⟨pp, cap', he, _, _, h3⟩ := ownsRow_slice hL.row
            simp only [Value.slice.injEq] at he
            obtain ⟨rfl, _, _⟩ := he
            exact h3 (by omega)
          have hc0 : ∀ W' : World, W'.heap[gl]? = w7.heap[gl]? → W'.cell? ⟨gl, i, none⟩ = some (.slice (some ⟨g, 0, none⟩) n cap) := fun W' hW' => by
            have h1 := (ownsRow_same (w1 := W') hL.row (fun b hb => by
              have e : b = gl := by simpa [Value.ownBlock] using hb
              subst e
              exact hW')).cells (g := gl) rfl i _ hv
            rwa [add0] at h1
          have hglw := (hL.row.lt gl rfl).2
          have hglB : ¬ B4.Blk pb lv' nv' vs' gl := hL.apart gl rfl
          have c0 := hc0 w7 rfl
          obtain ⟨⟨b0, b1, b2, b3⟩, f0, f1, f2, f3⟩ := box44 hL.bk.box
          have hR : Hid (∀ W, Calls Try.prog 45 #[.int .i64 (n : Int), .int .i64 (cap : Int)] W fun e w' => e = .returned (.int .i64 (roomF n cap)) ∧ w' = W) := Lib.hid fun W => (Room_any n cap (by omega) (by omega) W).mono fun _ _ ⟨a, b⟩ => ⟨a, b.symm⟩
          obtain ⟨rm, hrm⟩ : ∃ rm, roomF n cap = rm := ⟨_, rfl⟩
          have hrm0 : 0 ≤ rm ∧ rm ≤ 270000 := by rw [← hrm, roomF]; split <;> omega
          obtain ⟨hrm0, hrm1⟩ := hrm0
          rw [hrm] at hR
          have hszb : sz' ≤ 502474976710656 := by have := hL.s1; omega
          have hsz0' := hL.s0
          have hwrap : IntKind.i64.wrap (sz' + IntKind.i64.wrap (100 * IntKind.i64.wrap (10 + rm))) = sz' + 100 * (10 + rm) := by simp only [IntKind.wrap_i64]; omega
          have hi1 : (i : Int) < (ll' : Int) := by omega
          have HL := Lib.hid hL
          have HG := Lib.hid hg
          have HGD := Lib.hid hgD
          have HGB := Lib.hid hgB
          have HRW7 := Lib.hid hrw7
          have HC0 := Lib.hid hc0
          have HGLB := Lib.hid hglB
          have HNC := Lib.hid hncap
          have HCM := Lib.hid hcapm
          have HN := Lib.hid hn
          clear hrm hL hv hg hrw hkw hgD hgB hgw hrw7 hc0 hglB hn hncap hcapm
          go_wp2_with fail
          go_still_tail 21, (by kernel_rfl)
          still_call (hR.out _)
          repeat still_step
          refine wpStill_nil ?_
          obtain ⟨sz2, hsz2⟩ : ∃ z, sz' + 100 * (10 + rm) = z := ⟨_, rfl⟩
          have hz20 : 0 ≤ sz2 := by omega
          have hz21 : sz2 ≤ sz' + 30000000 := by omega
          have hz22 : sz2 ≤ 602474976710656 := by omega
          obtain ⟨V, hV⟩ : ∃ V, V = (w7.setCell ⟨pb, 2, none⟩ (.int .i64 (sz' + 100 * (10 + rm)))).drew := ⟨_, rfl⟩
          have hkV : Keeps (fun b => b = pb) w7 V := by rw [hV]; exact ((Keeps.refl (fun b => b = pb) w7).setCell (p := ⟨pb, 2, none⟩) (fun _ => rfl) _).drew
          have hBV : B4 D pb V lv' nv' sz2 kv vs' cs' ns' := by rw [hV, hsz2]; exact (HL.out.bk.count sz2).next ((Keeps.refl _ _).drew)
          have hglpb : gl ≠ pb := fun e => HGLB.out (.inl e)
          have hglV : V.heap[gl]? = w7.heap[gl]? := hkV.block gl hglw hglpb
          have hskip : L2 D pb lv nv sz kv vs bs bsx (.slice (some ⟨gl, 0, none⟩) ll' lc') ll' vs1 w (i + 1) lv' nv' sz2 vs' cs' ns' V :=
            HL.out.step HG.out HSUB.out HNDX.out HLOW.out HBS.out HLV.out hBV hz20 hz21 (by omega) HL.out.sm (hkV.mono (fun b hb _ => .inl (.inl hb))) (fun b hb => .inl hb)
          have HVV := Lib.hid hV
          have HKV := Lib.hid hkV
          have HBV := Lib.hid hBV
          have HSK := Lib.hid hskip
          have HGLV := Lib.hid hglV
          change wpList _ _ _ _ _ w7.drew
          clear hV hkV hBV hskip hglV hsz2
          go_upto_region 9 with fail
          rw [← HVV.out]
          clear b0 b1 b2 b3 f0 f1 f2 f3 c0 hR HVV hwrap
          obtain ⟨⟨b0, b1, b2, b3⟩, f0, f1, f2, f3⟩ := box44 HBV.out.box
          have c0 := HC0.out V HGLV.out
          by_cases hbig : 33554432 < sz2
          · go_wp2_with fail
            go_roundg (gk - 1)
            case measure => have := HI.out; omega
            case rel => exact ⟨i + 1, by have := HI.out; omega, by go_num, lv', nv', sz2, vs', cs', ns', HSK.out⟩
          · obtain ⟨i0, hx0, hy0, hy1, hy2⟩ := info_parts Try.listInfo
            have hrow0 := HBV.out.lists.row
            have hDV : D ≤ V.heap.size := by have := HKV.out.size; have := HL.out.keeps.size; omega
            have hp0 : lv'.ownBlock ≠ some pb := fun e => HBV.out.pbne.1 (.inl e)
            have hq0 : lv'.ownBlock ≠ some gl := fun e => HGLB.out (.inr (.inl (.inl e)))
            have hpV := heap_lt HBV.out.box
            have hvV : gl < V.heap.size := by have := HKV.out.size; omega
            have hvlen : vs'.length ≤ 4000000 := by have := HL.out.len; have := HI.out; have := HLL.out; omega
            go_upto_region 10 with fail
            go_cut [] from 20 (GrL4 D pb vs' (.slice (some ⟨g, 0, none⟩) n cap) lv' nv' sz2 kv V)
            case first =>
              go_region_law ((refine step_append_lies _ (by rfl) _ _ _ (by rfl) D TL i0 _ 1 24 Try.underlying61 hx0 hy0 hy1 hy2 rfl (by omega) lv' vs'.length vs' (by rfl) (by first | exact (hrow0.alloc _).drew | exact World.ownsRow.alloc hrow0.drew _) ⟨V.heap.size, 0, none⟩ 1 1 [.slice (some ⟨g, 0, none⟩) n cap] (by rfl) (by rfl) (World.news_of_block (cs := #[.slice (some ⟨g, 0, none⟩) n cap]) (t := TL) (fr := (0, 0)) (heap_alloc_new V _)) (by simp [Value.oneCell']) (by omega) (by simp only [maxLen]; omega) (by omega) (by simp; omega) (V.heap.size + 1) (by simp) ?_; intro g1 c1 w1 hown1 hgrow1 hat1 hlt1; have hl1 : w1.cell? ⟨pb, 0, none⟩ = some lv' := (hgrow1.cell_far ⟨pb, 0, none⟩ (by simp; omega) (Ne.symm hp0)).trans ((World.cell?_alloc_past _ _ _ hpV).trans b0); have hf1 : w1.frozen? ⟨pb, 0, none⟩ = false := (hgrow1.frozen_far ⟨pb, 0, none⟩ (by simp; omega) (Ne.symm hp0)).trans ((World.frozen?_alloc_past _ _ _ hpV).trans f0); have hv1 : w1.cell? ⟨gl, i, none⟩ = some (.slice (some ⟨g, 0, none⟩) n cap) := (hgrow1.cell_far ⟨gl, i, none⟩ (by simp; omega) (Ne.symm hq0)).trans ((World.cell?_alloc_past _ _ _ hvV).trans c0)))
              all_goals go_wp2_with fail
              all_goals
                obtain ⟨q1, q2, q3⟩ := push_cell2 (i := 0) HBV.out.box (by decide) HBV.out.lists.row (show (V.alloc (.cells #[.slice (some ⟨g, 0, none⟩) n cap] TL)).grownBy w1 lv'.ownBlock from ⟨hgrow1.os, hgrow1.tape, hgrow1.output, hgrow1.size, hgrow1.block⟩) hown1
                go_meet
                case rel => exact ⟨g1, c1, q1, q2, q3, hat1.imp_right (fun h => by omega)⟩
            case rest =>
              obtain ⟨V1, hV1⟩ : ∃ V1, V1 = wc := ⟨_, rfl⟩
              subst hV1
              obtain ⟨g1, c1, q1, q2, q3, q4⟩ := hcut
              have hrow1 : V1.ownsRow D 3 1 nv' vs'.length (ns'.map fun n : Nat => .int .i64 (n : Int)) := ownsRow_same HBV.out.lens (fun b hb => by
                have hb' : nv'.ownBlock = some b := by simpa using hb
                have h1 := HBV.out.lens.lt b hb'
                exact q3.block b h1.2 (fun e => e.elim (fun e => HBV.out.pbne.2 (by have e : b = pb := e; rwa [e] at hb')) (fun e => HBV.out.nvne hb' (.inl e))))
              have hgl1 : V1.heap[gl]? = w7.heap[gl]? := (q3.block gl hvV (fun e => e.elim hglpb hq0)).trans HGLV.out
              have hp1 : nv'.ownBlock ≠ some pb := HBV.out.pbne.2
              have hq1 : nv'.ownBlock ≠ some gl := fun e => HGLB.out (.inr (.inr e))
              have hDV1 : D ≤ V1.heap.size := by have := q3.size; omega
              have hpV1 := heap_lt q1
              have hvV1 : gl < V1.heap.size := by have := q3.size; omega
              obtain ⟨i1, hx1, hw0, hw1, hw2⟩ := info_parts Try.intInfo4
              have HQ1 := Lib.hid q1
              have HQ2 := Lib.hid q2
              have HQ3 := Lib.hid q3
              have HGL1 := Lib.hid hgl1
              have hnz : n ≤ 200000 := HN.out
              clear b0 b1 b2 b3 f0 f1 f2 f3 c0 hp0 hrow0
              obtain ⟨⟨b0, b1, b2, b3⟩, f0, f1, f2, f3⟩ := box44 q1
              have c0 := HC0.out V1 hgl1
              clear q1 q2 q3 hgl1
              go_upto_region 11 with fail
              go_cut [] from 20 (GrN4 D pb ns' vs'.length n (.slice (some ⟨g1, 0, none⟩) (vs'.length + 1) c1) nv' sz2 kv V1)
              case first =>
                go_region_law ((refine step_append_lies _ (by rfl) _ _ _ (by rfl) D 3 i1 _ 1 8 Try.underlying32 hx1 hw0 hw1 hw2 rfl (by omega) nv' vs'.length (ns'.map fun n : Nat => .int .i64 (n : Int)) (by rfl) (by first | exact (hrow1.alloc _).drew | exact World.ownsRow.alloc hrow1.drew _) ⟨V1.heap.size, 0, none⟩ 1 1 [.int .i64 (n : Int)] (by rfl) (by rfl) (World.news_of_block (cs := #[.int .i64 (n : Int)]) (t := 3) (fr := (0, 0)) (heap_alloc_new V1 _)) (by simp [Value.oneCell']) (by omega) (by simp only [maxLen]; omega) (by omega) (by simp; omega) (V1.heap.size + 1) (by simp) ?_; intro g2 c2 w2 hown2 hgrow2 hat2 hlt2; have hl2 : w2.cell? ⟨pb, 1, none⟩ = some nv' := (hgrow2.cell_far ⟨pb, 1, none⟩ (by simp; omega) (Ne.symm hp1)).trans ((World.cell?_alloc_past _ _ _ hpV1).trans b1); have hf2 : w2.frozen? ⟨pb, 1, none⟩ = false := (hgrow2.frozen_far ⟨pb, 1, none⟩ (by simp; omega) (Ne.symm hp1)).trans ((World.frozen?_alloc_past _ _ _ hpV1).trans f1); have hv2 : w2.cell? ⟨gl, i, none⟩ = some (.slice (some ⟨g, 0, none⟩) n cap) := (hgrow2.cell_far ⟨gl, i, none⟩ (by simp; omega) (Ne.symm hq1)).trans ((World.cell?_alloc_past _ _ _ hvV1).trans c0)))
                all_goals go_wp2_with fail
                all_goals
                  obtain ⟨p1, p2, p3⟩ := push_cell2 (i := 1) HQ1.out (by decide) hrow1 (show (V1.alloc (.cells #[.int .i64 (n : Int)] 3)).grownBy w2 nv'.ownBlock from ⟨hgrow2.os, hgrow2.tape, hgrow2.output, hgrow2.size, hgrow2.block⟩) hown2
                  go_meet
                  case rel => exact ⟨g2, c2, p1, p2, p3, hat2.imp_right (fun h => by omega)⟩
              case rest =>
                obtain ⟨V2, hV2⟩ : ∃ V2, V2 = wc := ⟨_, rfl⟩
                subst hV2
                obtain ⟨g2, c2, p1, p2, p3, p4⟩ := hcut
                have hgl2 : V2.heap[gl]? = w7.heap[gl]? := (p3.block gl hvV1 (fun e => e.elim hglpb hq1)).trans HGL1.out
                have hgg : g < w7.heap.size := (HRW7.out.lt g rfl).2
                have hggl : gl ≠ g := fun e => by
                  have h1 := HLV.out gl rfl
                  have h2 := HLOW.out g (HSUB.out.subset (List.mem_of_getElem? HG.out))
                  omega
                have hgV : V.heap[g]? = w7.heap[g]? := HKV.out.block g hgg (fun e => HGB.out (.inl e))
                have hgV1 : V1.heap[g]? = V.heap[g]? := HQ3.out.block g (by have := HKV.out.size; omega) (fun e => HGB.out (e.elim .inl (fun e => .inr (.inl (.inl e)))))
                have hgV2 : V2.heap[g]? = V1.heap[g]? := p3.block g (by have := HKV.out.size; have := HQ3.out.size; omega) (fun e => HGB.out (e.elim .inl (fun e => .inr (.inr e))))
                have hrV : V.ownsRow 0 T 4 (.slice (some ⟨g, 0, none⟩) n cap) n ys := ownsRow_same HRW7.out (fun b hb => by
                  have e : b = g := by simpa [Value.ownBlock] using hb
                  subst e
                  exact hgV)
                have hr2 : V2.ownsRow 0 T 4 (.slice (some ⟨g, 0, none⟩) n cap) n ys := ownsRow_same hrV (fun b hb => by
                  have e : b = g := by simpa [Value.ownBlock] using hb
                  subst e
                  exact hgV2.trans hgV1)
                have hpt : PT g cap vs'.length 0 V2 := PT.start hr2
                have HP1 := Lib.hid p1
                have HP2 := Lib.hid p2
                have HP3 := Lib.hid p3
                have HPT := Lib.hid hpt
                have HRV := Lib.hid hrV
                have HGL2 := Lib.hid hgl2
                have hglV2 : gl < V2.heap.size := by have := p3.size; omega
                have hgpb : g ≠ pb := fun e => HGB.out (.inl e)
                have hvz : (vs'.length : Int) ≤ 4000000 := by omega
                have hnzz : (n : Int) ≤ 200000 := by omega
                clear p1 p2 p3 hr2 hrV hpt hgl2 hgV hgV1 hgV2 b0 b1 b2 b3 f0 f1 f2 f3 c0 hp1 hq1
                go_wp2_with fail
                go_loopg [7] n (fun m q W => ∃ k : Nat, k + m = n ∧ q = .int .i64 k ∧ PT g cap vs'.length k W ∧ Keeps (fun b => b = g) V2 W)
                case atStart => exact ⟨0, by omega, rfl, HPT.out, Keeps.refl _ _⟩
                case round =>
                  obtain ⟨w9, hw9⟩ : ∃ X, X = wr := ⟨_, rfl⟩
                  subst hw9
                  obtain ⟨k, hkm, rfl, hP, hk9⟩ := hrel
                  have HKM := Lib.hid hkm
                  have HPK := Lib.hid hP
                  have HK9 := Lib.hid hk9
                  have hk0 : (0 : Int) ≤ (k : Int) := Int.natCast_nonneg _
                  obtain ⟨⟨b0, b1, b2, b3⟩, f0, f1, f2, f3⟩ := box44 ((hk9.block pb (heap_lt HP1.out) (fun e => hgpb e.symm)).trans HP1.out)
                  have c0 := HC0.out w9 ((hk9.block gl hglV2 hggl).trans HGL2.out)
                  clear hkm hP hk9
                  by_cases hkn : k < n
                  · obtain ⟨ha, hfz⟩ := HPK.out.any
                    obtain ⟨v0, a0⟩ := ha (k * 4) (by have := HNC.out; omega)
                    obtain ⟨v1, a1⟩ := ha (k * 4 + 1) (by have := HNC.out; omega)
                    obtain ⟨v2, a2⟩ := ha (k * 4 + 2) (by have := HNC.out; omega)
                    obtain ⟨v3, a3⟩ := ha (k * 4 + 3) (by have := HNC.out; omega)
                    have z0 := hfz (k * 4)
                    have z1 := hfz (k * 4 + 1)
                    have z2 := hfz (k * 4 + 2)
                    have z3 := hfz (k * 4 + 3)
                    have hset := (HPK.out.set (by have := HNC.out; omega)).keeps (S := fun _ => False) ((Keeps.refl _ _).drew) (fun h => h)
                    have hkst : Keeps (fun b => b = g) V2 (S4o w9 g (k * 4) e0 (-((vs'.length : Int) + 1)) e0 none 0 0).drew := ((((HK9.out.setCell (p := ⟨g, k * 4, none⟩) (fun _ => rfl) _).setCell (p := ⟨g, k * 4 + 1, none⟩) (fun _ => rfl) _).setCell (p := ⟨g, k * 4 + 2, none⟩) (fun _ => rfl) _).setCell (p := ⟨g, k * 4 + 3, none⟩) (fun _ => rfl) _).drew
                    have HSET := Lib.hid hset
                    have HKST := Lib.hid hkst
                    have hi2 : (k : Int) < (n : Int) := by omega
                    clear ha hfz hset hkst
                    go_wp2_with fail
                    go_still_tail 13, (by kernel_rfl)
                    change wpList _ _ _ _ _ w9.drew
                    go_wp2_with fail
                    go_roundg (gk - 1)
                    case measure => have := HKM.out; omega
                    case rel => exact ⟨k + 1, by have := HKM.out; omega, by go_num, HSET.out, HKST.out⟩
                  · have hkn2 : k = n := by have := HKM.out; omega
                    subst hkn2
                    have hfin := take4_done HBV.out HRV.out HGD.out HGB.out HN.out HP1.out HQ2.out HQ3.out q4 HP2.out HP3.out p4 HPK.out HK9.out
                    obtain ⟨⟨cs2, hB2, hsm2⟩, hkf, hff⟩ := hfin
                    have hstep := HL.out.step HG.out HSUB.out HNDX.out HLOW.out HBS.out HLV.out hB2 hz20 hz21 (by simp) (fun c hc => (hsm2 c hc).elim (HL.out.sm c) (fun e => by have := HN.out; omega)) ((HKV.out.mono (S' := fun b => B4.Blk pb lv' nv' vs' b ∨ b = g) (fun b hb _ => .inl (.inl hb))).trans hkf) (fun b hb => (hff b hb).imp_right (fun h => h.imp_right (fun h => by have := HKV.out.size; omega)))
                    have HST := Lib.hid hstep
                    clear hB2 hsm2 hkf hff hstep b0 b1 b2 b3 f0 f1 f2 f3
                    go_wp2_with fail
                    go_roundg (ll' - (i + 1))
                    case measure => have := HI.out; omega
                    case rel => exact ⟨i + 1, by have := HI.out; omega, by go_num, _, _, _, _, _, _, HST.out⟩
        · have hfin : TakeR4 D pb lv nv sz kv vs bs w w7 := ⟨lv', nv', sz', vs', cs', ns', hL.bk, hL.s0, by have := hL.s1; have := HI.out; have := HLL.out; omega, by have := hL.len; have := HI.out; have := HLL.out; omega, hL.sm, hL.keeps, fun b hb => (hL.fresh b hb).imp_right (fun h => h.imp_left fun h => HSUB.out.subset (List.mem_of_mem_take h))⟩
          have HFIN := Lib.hid hfin
          clear hfin hL
          go_wp2_with fail
          refine bodyPost_end (v := .tuple #[]) (by simp [results, Try.results29, go_sem]) rfl ?_
          exact ⟨⟨_, rfl⟩, HFIN.out⟩
end Go.Proofs.Ytnphhibfiklfjaa

/-!
  The book while its lists are grown.
-/
namespace Go.Proofs.Ytnphhibfiklfjaa

open Go.RowKit

abbrev mG4 (i : Nat) : List Value := [.string e0, .int .i64 (-((i : Int) + 1)), .string kX4, .slice none 0 0]
theorem ownsRow_setAt {w : World} {D e s n g c : Nat} {xs : List Value} (h : w.ownsRow D e s (.slice (some ⟨g, 0, none⟩) n c) n xs) (k : Nat) (v : Value) : (w.setCell ⟨g, k, none⟩ v).ownsRow D e s (.slice (some ⟨g, 0, none⟩) n c) n (xs.set k v) := by
  refine ⟨by simpa using h.1, .inr ?_⟩
  rcases h.2 with ⟨h1, _⟩ | ⟨g', cap, cur, h1, h2, h3, h4, h5, h6, h7⟩
  · simp at h1
  · simp only [Value.slice.injEq, Option.some.injEq, Addr.mk.injEq, and_true, true_and] at h1
    obtain ⟨rfl, rfl⟩ := h1
    exact ⟨g, c, _, rfl, h2, heap_set h3 _ _, h4, h5, by simpa using h6, by rw [Array.toList_setIfInBounds, List.take_set, h7]⟩
theorem ownsRow_last {w : World} {D n g c : Nat} {xs : List Value} {z0 z1 z2 z3 : Value} (h : w.ownsRow D T 4 (.slice (some ⟨g, 0, none⟩) (n + 1) c) (n + 1) (xs ++ [z0, z1, z2, z3])) (k : ByteArray) (m : Int) (t : ByteArray) (cp : Option Addr) (cl cc : Nat) :
    (S4o w g (n * 4) k m t cp cl cc).ownsRow D T 4 (.slice (some ⟨g, 0, none⟩) (n + 1) c) (n + 1) (xs ++ [.string k, .int .i64 m, .string t, .slice cp cl cc]) := by
  have hl : xs.length = n * 4 := by have := h.1; simp at this; omega
  have h4 := ownsRow_setAt (ownsRow_setAt (ownsRow_setAt (ownsRow_setAt h (n * 4) (.string k)) (n * 4 + 1) (.int .i64 m)) (n * 4 + 2) (.string t)) (n * 4 + 3) (.slice cp cl cc)
  have he : ((((xs ++ [z0, z1, z2, z3]).set (n * 4) (.string k)).set (n * 4 + 1) (.int .i64 m)).set (n * 4 + 2) (.string t)).set (n * 4 + 3) (.slice cp cl cc) = xs ++ [.string k, .int .i64 m, .string t, .slice cp cl cc] := by
    rw [← hl]
    simp [List.set_append]
  rwa [he] at h4
theorem Good.push {i n : Nat} {c : Nat × List Value} (h : Good i n c) (hl : c.2.length = c.1 * 4) (hn : n ≤ c.1) : Good i n (c.1 + 1, c.2 ++ mG4 i) := fun k hk => by
  have hk : k < c.1 + 1 := hk
  by_cases hkc : k < c.1
  · obtain ⟨q0, q1, q2, q3⟩ := h k hkc
    have ha : ∀ q v, c.2[q]? = some v → (c.2 ++ mG4 i)[q]? = some v := fun q v hv => by rw [List.getElem?_append_left (List.getElem?_eq_some_iff.1 hv).1]; exact hv
    exact ⟨ha _ _ q0, ha _ _ q1, ha _ _ q2, ha _ _ q3⟩
  · have hkc2 : k = c.1 := by omega
    subst hkc2
    have ha : ∀ d v, (mG4 i)[d]? = some v → (c.2 ++ mG4 i)[c.1 * 4 + d]? = some v := fun d v hv => by rw [List.getElem?_append_right (by omega), hl, show c.1 * 4 + d - c.1 * 4 = d by omega]; exact hv
    rw [if_neg (by omega)]
    exact ⟨ha 0 _ rfl, ha 1 _ rfl, ha 2 _ rfl, ha 3 _ rfl⟩
section

variable {D pb : Nat} {W : World} {lv nv kv : Value} {sz : Int} {vs : List Value} {cs : List (Nat × List Value)} {ns : List Nat}

/-- One mark more at the i-th: the row is grown, then its place in the list is written. -/
theorem B4.push {w1 : World} (h : B4 D pb W lv nv sz kv vs cs ns) {i gl cl g' c' : Nat} (hlv : lv = .slice (some ⟨gl, 0, none⟩) vs.length cl) {v : Value} {c : Nat × List Value} (hv : vs[i]? = some v) (hc : cs[i]? = some c)
    (hk : Keeps (fun b => v.ownBlock = some b) W w1) (hrow : w1.ownsRow D T 4 (.slice (some ⟨g', 0, none⟩) (c.1 + 1) c') (c.1 + 1) (c.2 ++ mG4 i)) (hat : v.ownBlock = some g' ∨ W.heap.size ≤ g') :
    B4 D pb (w1.setCell ⟨gl, i, none⟩ (.slice (some ⟨g', 0, none⟩) (c.1 + 1) c')) lv nv sz kv (vs.set i (.slice (some ⟨g', 0, none⟩) (c.1 + 1) c')) (cs.set i (c.1 + 1, c.2 ++ mG4 i)) ns ∧ Keeps (Lists.Blk lv vs) W (w1.setCell ⟨gl, i, none⟩ (.slice (some ⟨g', 0, none⟩) (c.1 + 1) c')) ∧
      ∀ b, Lists.Blk lv (vs.set i (.slice (some ⟨g', 0, none⟩) (c.1 + 1) c')) b → Lists.Blk lv vs b ∨ W.heap.size ≤ b := by
  obtain ⟨h1, h2, h3⟩ := h.lists.put (by decide) hlv hv hc hk (c' := (c.1 + 1, c.2 ++ mG4 i)) hrow (fun b hb => by
    have e : g' = b := by simpa [Value.ownBlock] using hb
    rw [← e]; exact hat)
  have hil : i < cs.length := (List.getElem?_eq_some_iff.1 hc).1
  have hcl : c.2.length = c.1 * 4 := (h.lists.rows i v c hv hc).1
  refine ⟨⟨(h2.block pb (heap_lt h.box) h.pbne.1).trans h.box, h1, by rw [List.length_set]; exact h.nlen, ?_, fun j n c2 hn hc2 => ?_⟩, h2, h3⟩
  · rw [List.length_set]
    refine ownsRow_same h.lens (fun b hm => ?_)
    have hb : nv.ownBlock = some b := by simpa using hm
    exact h2.block b (h.lens.lt b hb).2 (fun hh => h.nvne hb hh)
  · by_cases hj : j = i
    · subst hj
      rw [List.getElem?_set_self hil] at hc2
      simp only [Option.some.injEq] at hc2
      subst hc2
      obtain ⟨g1, g2, g3⟩ := h.good j n c hn hc
      exact ⟨by show n ≤ c.1 + 1; omega, g2, g3.push hcl g1⟩
    · rw [List.getElem?_set_ne (fun e => hj e.symm)] at hc2
      exact h.good j n c2 hn hc2
/-- The row is grown by any element, its place in the list is written, then the element is. -/
theorem B4.pushA {w1 : World} (h : B4 D pb W lv nv sz kv vs cs ns) {i gl cl g' c' : Nat} (hlv : lv = .slice (some ⟨gl, 0, none⟩) vs.length cl) {v : Value} {c : Nat × List Value} (hv : vs[i]? = some v) (hc : cs[i]? = some c) {z0 z1 z2 z3 : Value}
    (hk : Keeps (fun b => v.ownBlock = some b) W w1) (hrow : w1.ownsRow D T 4 (.slice (some ⟨g', 0, none⟩) (c.1 + 1) c') (c.1 + 1) (c.2 ++ [z0, z1, z2, z3])) (hat : v.ownBlock = some g' ∨ W.heap.size ≤ g') :
    B4 D pb (S4o (w1.setCell ⟨gl, i, none⟩ (.slice (some ⟨g', 0, none⟩) (c.1 + 1) c')) g' (c.1 * 4) e0 (-((i : Int) + 1)) kX4 none 0 0) lv nv sz kv (vs.set i (.slice (some ⟨g', 0, none⟩) (c.1 + 1) c')) (cs.set i (c.1 + 1, c.2 ++ mG4 i)) ns ∧
      Keeps (Lists.Blk lv vs) W (S4o (w1.setCell ⟨gl, i, none⟩ (.slice (some ⟨g', 0, none⟩) (c.1 + 1) c')) g' (c.1 * 4) e0 (-((i : Int) + 1)) kX4 none 0 0) ∧
      ∀ b, Lists.Blk lv (vs.set i (.slice (some ⟨g', 0, none⟩) (c.1 + 1) c')) b → Lists.Blk lv vs b ∨ W.heap.size ≤ b := by
  obtain ⟨h1, h2, h3⟩ := h.lists.put (by decide) hlv hv hc hk (c' := (c.1 + 1, c.2 ++ [z0, z1, z2, z3])) hrow (fun b hb => by
    have e : g' = b := by simpa [Value.ownBlock] using hb
    rw [← e]; exact hat)
  have hil : i < cs.length := (List.getElem?_eq_some_iff.1 hc).1
  have hilv : i < vs.length := (List.getElem?_eq_some_iff.1 hv).1
  have hcl : c.2.length = c.1 * 4 := (h.lists.rows i v c hv hc).1
  have hv2 : (vs.set i (.slice (some ⟨g', 0, none⟩) (c.1 + 1) c'))[i]? = some (.slice (some ⟨g', 0, none⟩) (c.1 + 1) c') := List.getElem?_set_self hilv
  have hc2 : (cs.set i (c.1 + 1, c.2 ++ [z0, z1, z2, z3]))[i]? = some (c.1 + 1, c.2 ++ [z0, z1, z2, z3]) := List.getElem?_set_self hil
  have hr2 := h1.rows i _ _ hv2 hc2
  have hgD : D ≤ g' := (hrow.lt g' rfl).1
  obtain ⟨W2, hW2⟩ : ∃ W2, W2 = w1.setCell ⟨gl, i, none⟩ (.slice (some ⟨g', 0, none⟩) (c.1 + 1) c') := ⟨_, rfl⟩
  rw [← hW2] at h1 h2 hr2 ⊢
  have h4 : Keeps (fun b => b = g') W2 (S4o W2 g' (c.1 * 4) e0 (-((i : Int) + 1)) kX4 none 0 0) := ((((Keeps.refl (fun b => b = g') W2).setCell (p := ⟨g', c.1 * 4, none⟩) (fun _ => rfl) _).setCell (p := ⟨g', c.1 * 4 + 1, none⟩) (fun _ => rfl) _).setCell (p := ⟨g', c.1 * 4 + 2, none⟩) (fun _ => rfl) _).setCell (p := ⟨g', c.1 * 4 + 3, none⟩) (fun _ => rfl) _
  have hW := h1.write (by decide) (c' := (c.1 + 1, c.2 ++ mG4 i)) hv2 hc2 (h4.mono (fun b hb _ => by rw [hb]; rfl)) (ownsRow_last hr2 e0 (-((i : Int) + 1)) kX4 none 0 0)
  rw [List.set_set] at hW
  have hkD : Keeps (Lists.Blk lv vs) W (S4o W2 g' (c.1 * 4) e0 (-((i : Int) + 1)) kX4 none 0 0) := h2.trans' h4 (fun b hb hl => by
    have hb : b = g' := hb
    rcases hat with hh | hh
    · exact .inr ⟨v, List.mem_of_getElem? hv, by rw [hb]; exact hh⟩
    · omega)
  refine ⟨⟨(hkD.block pb (heap_lt h.box) h.pbne.1).trans h.box, hW, by rw [List.length_set]; exact h.nlen, ?_, fun j n c2 hn hc2 => ?_⟩, hkD, h3⟩
  · rw [List.length_set]
    refine ownsRow_same h.lens (fun b hm => ?_)
    have hb : nv.ownBlock = some b := by simpa using hm
    have hlt := (h.lens.lt b hb).2
    have e1 := h2.block b hlt (fun hh => h.nvne hb hh)
    refine (h4.block b (Nat.lt_of_lt_of_le hlt h2.size) (fun e => ?_)).trans e1
    rcases hat with hh | hh
    · exact h.nvne hb (.inr ⟨v, List.mem_of_getElem? hv, by rw [e]; exact hh⟩)
    · omega
  · by_cases hj : j = i
    · subst hj
      rw [List.getElem?_set_self hil] at hc2
      simp only [Option.some.injEq] at hc2
      subst hc2
      obtain ⟨g1, g2, g3⟩ := h.good j n c hn hc
      exact ⟨by show n ≤ c.1 + 1; omega, g2, g3.push hcl g1⟩
    · rw [List.getElem?_set_ne (fun e => hj e.symm)] at hc2
      exact h.good j n c2 hn hc2
end

/-- What growing has changed since W. -/
def Fr (W : World) (lv : Value) (vs0 vs : List Value) (V : World) : Prop := Keeps (fun b => Lists.Blk lv vs0 b) W V ∧ ∀ b, Lists.Blk lv vs b → Lists.Blk lv vs0 b ∨ W.heap.size ≤ b
theorem Fr.next {W V V1 : World} {lv : Value} {vs0 vs : List Value} (h : Fr W lv vs0 vs V) (hk : Keeps (fun _ => False) V V1) : Fr W lv vs0 vs V1 := ⟨h.1.trans' hk (fun _ h => h.elim), h.2⟩
theorem Fr.push {W V V1 : World} {lv : Value} {vs0 vs vs2 : List Value} (h : Fr W lv vs0 vs V) (hk : Keeps (Lists.Blk lv vs) V V1) (hf : ∀ b, Lists.Blk lv vs2 b → Lists.Blk lv vs b ∨ V.heap.size ≤ b) : Fr W lv vs0 vs2 V1 := by
  have hs := h.1.size
  refine ⟨h.1.trans' hk (fun b hb hl => ?_), fun b hb => ?_⟩
  · rcases h.2 b hb with h1 | h1
    · exact h1
    · omega
  · rcases hf b hb with h1 | h1
    · exact h.2 b h1
    · exact .inr (by omega)
end Go.Proofs.Ytnphhibfiklfjaa
