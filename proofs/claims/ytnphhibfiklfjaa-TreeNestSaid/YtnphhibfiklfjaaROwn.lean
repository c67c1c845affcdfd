/-
  A list of kids, built kid by kid; espalierref4.Own: its walk.
-/
import Derived.Test.YtnphhibfiklfjaaBase
import Derived.Deep.LoopGhost
import Derived.Deep.AppendLies
import Derived.Deep.Cut
set_option linter.unusedVariables false
set_option linter.unusedSimpArgs false
namespace Go.Proofs.Ytnphhibfiklfjaa
open Go.RowKit

/-- Half way: j kids are there, in blocks from D on. -/
structure RowI (D : Nat) (W : World) (c : Fo) (j : Nat) (vp : Option Addr) (vl vc : Nat) (xs : List Value) (bs : List Nat) : Prop where
  row : W.ownsRow 0 T 4 (.slice vp vl vc) j xs
  rep : RowRep W (c.take j) xs bs
  news : News W D (sb vp vl vc ++ bs)
theorem RowI.start (D : Nat) (W : World) (c : Fo) : RowI D W c 0 none 0 0 [] [] := ⟨World.ownsRow_nil _ _ _ _, RowRep.nil _, News.nil _ _⟩
theorem RowI.lo {D : Nat} {W : World} {c : Fo} {j : Nat} {vp : Option Addr} {vl vc : Nat} {xs : List Value} {bs : List Nat} (h : RowI D W c j vp vl vc xs bs) {b : Nat} (hb : (Value.slice vp vl vc).ownBlock = some b) : D ≤ b ∧ b < W.heap.size := by
  have hm : b ∈ sb vp vl vc ++ bs := List.mem_append.2 (.inl (by simp [sb, hb]))
  exact ⟨h.news.lo b hm, h.news.hi b hm⟩
theorem RowI.keeps {D : Nat} {W W1 : World} {S : Nat → Prop} {c : Fo} {j : Nat} {vp : Option Addr} {vl vc : Nat} {xs : List Value} {bs : List Nat} (h : RowI D W c j vp vl vc xs bs) (hk : Keeps S W W1) (hS : ∀ b, S b → b < D) : RowI D W1 c j vp vl vc xs bs :=
  ⟨ownsRow_same h.row (fun b hb => by
    have hb' : (Value.slice vp vl vc).ownBlock = some b := by simpa using hb
    have := h.lo hb'
    exact hk.block b this.2 (fun hs => by have := hS b hs; omega)),
   h.rep.keeps hk (fun b hb => ⟨h.news.hi b (List.mem_append.2 (.inr hb)), fun hs => by have := hS b hs; have := h.news.lo b (List.mem_append.2 (.inr hb)); omega⟩), h.news.keeps hk⟩
/-- One kid more. -/
theorem RowI.push {D : Nat} {wr W2 Wp w3 : World} {c : Fo} {j : Nat} {vp : Option Addr} {vl vc : Nat} {xs : List Value} {bs : List Nat} (hI : RowI D wr c j vp vl vc xs bs) (hDw : D ≤ wr.heap.size)
    {k1 : ByteArray} {n1 : Int} {t1 : ByteArray} {s1 r1 : Fo} {cp1 : Option Addr} {cl1 cc1 : Nat} {bs1 : List Nat} (hd : c.drop j = .cons k1 n1 t1 s1 r1) (ht1 : szok k1 t1)
    (ho : Own W2 s1 cp1 cl1 cc1 bs1) (hn : News W2 wr.heap.size bs1) (hk : Keeps (fun _ => False) wr W2) (hp : Keeps (fun _ => False) W2 Wp) {gg cap : Nat}
    (hrow : w3.ownsRow 0 T 4 (.slice (some ⟨gg, 0, none⟩) (j + 1) cap) (j + 1) (xs ++ [.string k1, .int .i64 n1, .string t1, .slice cp1 cl1 cc1]))
    (hg : Wp.grownBy w3 (Value.slice vp vl vc).ownBlock) (hat : (Value.slice vp vl vc).ownBlock = some gg ∨ gg = Wp.heap.size) (hlt : gg < w3.heap.size) :
    RowI D w3 c (j + 1) (some ⟨gg, 0, none⟩) (j + 1) cap (xs ++ [.string k1, .int .i64 n1, .string t1, .slice cp1 cl1 cc1]) (bs ++ bs1) ∧ Keeps (fun b => (Value.slice vp vl vc).ownBlock = some b) Wp w3 := by
  have h2 := hk.size
  have hp2 := hp.size
  have hsz3 := hg.size
  have hsb : ∀ x, (Value.slice vp vl vc).ownBlock = some x → x ∈ sb vp vl vc := fun x hx => by simp [sb, hx]
  have hnd := List.nodup_append.1 hI.news.nodup
  have hgg : D ≤ gg := by
    rcases hat with h | h
    · exact (hI.lo h).1
    · omega
  have hold : ∀ x, x < W2.heap.size → x ∉ sb vp vl vc → w3.heap[x]? = W2.heap[x]? := fun x hx hn1 => by
    rw [hg.block x (by omega) (fun e => hn1 (hsb _ e.symm)), hp.block x hx (fun h => h)]
  have hka : Keeps (fun b => (Value.slice vp vl vc).ownBlock = some b) Wp w3 := ⟨hg.os, hg.tape, hg.output, hg.size, fun x hx hn => hg.block x hx (fun e => hn e.symm)⟩
  refine ⟨⟨hrow, ?_, ?_⟩, hka⟩
  · rw [Fo.take_step hd]
    have hr2 : RowRep W2 (c.take j) xs bs := hI.rep.keeps hk (fun b hb => ⟨hI.news.hi b (List.mem_append.2 (.inr hb)), fun h => h⟩)
    refine RowRep.snoc ht1 (ho.same fun b hb => ?_) (hr2.same fun b hb => ?_)
    · have h1 := hn.lo b hb
      refine hold b (hn.hi b hb) (fun h => ?_)
      have := hI.news.hi b (List.mem_append.2 (.inl h))
      omega
    · have h1 := hI.news.hi b (List.mem_append.2 (.inr hb))
      exact hold b (by omega) (fun h => hnd.2.2 b h b hb rfl)
  · have hmem : ∀ x, x ∈ bs ++ bs1 → D ≤ x ∧ x < W2.heap.size ∧ x ∉ sb vp vl vc := fun x hx => by
      rcases List.mem_append.1 hx with h | h
      · have h1 := hI.news.hi x (List.mem_append.2 (.inr h))
        exact ⟨hI.news.lo x (List.mem_append.2 (.inr h)), by omega, fun h' => hnd.2.2 x h' x h rfl⟩
      · have h1 := hn.lo x h
        exact ⟨by omega, hn.hi x h, fun h' => by have := hI.news.hi x (List.mem_append.2 (.inl h')); omega⟩
    have hsb2 : sb (some ⟨gg, 0, none⟩) (j + 1) cap = [gg] := rfl
    rw [hsb2]
    refine ⟨fun x hx => ?_, fun x hx => ?_, ?_⟩
    · rcases List.mem_append.1 hx with h | h
      · simp only [List.mem_singleton] at h; omega
      · exact (hmem x h).1
    · rcases List.mem_append.1 hx with h | h
      · simp only [List.mem_singleton] at h; omega
      · have := (hmem x h).2.1; omega
    · refine List.nodup_append.2 ⟨by simp, List.nodup_append.2 ⟨hnd.2.1, hn.nodup, fun a ha b hb e => ?_⟩, fun a ha b hb e => ?_⟩
      · have h1 := hI.news.hi a (List.mem_append.2 (.inr ha))
        have h3 := hn.lo b hb
        omega
      · simp only [List.mem_singleton] at ha
        have h1 := hmem b hb
        rcases hat with h | h
        · exact h1.2.2 (by rw [← e, ha]; exact hsb _ h)
        · omega
theorem RowI.own {D : Nat} {W : World} {c : Fo} {j : Nat} {vp : Option Addr} {vl vc : Nat} {xs : List Value} {bs : List Nat} (h : RowI D W c j vp vl vc xs bs) (hl : c.len = j) : Own W c vp vl vc (sb vp vl vc ++ bs) := by
  have hr := h.rep
  rw [Fo.take_len (by omega)] at hr
  exact ⟨xs, bs, by rw [hl]; exact h.row, hr, rfl⟩

set_option maxRecDepth 100000 in
set_option maxHeartbeats 1600000 in
theorem rOwn_any : ∀ (N : Nat), N ≤ 100000 → ∀ (k : ByteArray) (n : Int) (t : ByteArray) (c : Fo) (A : Nat → Prop) (cp : Option Addr) (cl cc : Nat) (w : World), c.nodes < N → Tv w A k t c cp cl cc →
   Calls Try.prog 63 #[tv k n t cp cl cc] w (TwinR k n t c w) := by
  intro N
  induction N with
  | zero => intros; omega
  | succ N ih =>
    intro hN1 k n t c A cp cl cc w hN h
    obtain ⟨i0, hi0, hz0, hz1, hz2⟩ := info_parts Try.treeInfo
    obtain ⟨w1, hw1⟩ : ∃ w1, w1 = w.alloc (.cells (four k n t cp cl cc) T) := ⟨_, rfl⟩
    obtain ⟨w2, hw2⟩ : ∃ w2, w2 = w1.alloc (.cells (four e0 0 e0 none 0 0) T) := ⟨_, rfl⟩
    have hK1 : Keeps (fun _ => False) w w1 := by rw [hw1]; exact (Keeps.refl _ w).alloc _
    have hK2 : Keeps (fun _ => False) w1 w2 := by rw [hw2]; exact (Keeps.refl _ w1).alloc _
    have hs1 : w1.heap.size = w.heap.size + 1 := by rw [hw1]; simp
    have hs2 : w2.heap.size = w.heap.size + 2 := by rw [hw2]; simp [hs1]
    have hb1 : w1.heap[w.heap.size]? = some (.cells (four k n t cp cl cc) T (0, 0)) := by rw [hw1]; exact heap_alloc_new _ _
    have hb2 := hK2.heap hb1
    have hr2 : w2.heap[w.heap.size + 1]? = some (.cells (four e0 0 e0 none 0 0) T (0, 0)) := by rw [hw2, ← hs1]; exact heap_alloc_new _ _
    have hK := hK1.trans hK2
    have ht2 := h.next hK
    have hlc := h.lc
    have hcm := h.cm
    have hlen := h.len
    have hcl : cl ≤ 100000 := by have h1 := Fo.len_nodes c; omega
    have HL := Lib.hid hlen
    have HI := Lib.hid ih
    have HW := Lib.hid hw2
    have HW1 := Lib.hid hw1
    clear hw1 hw2 hlen ih hb1
    go_enter Try.func63, Try.ntmps63
    go_wp2_with fail
    rw [← HW1.out, ← HW.out]
    go_loopg [3, 4] cl (fun m l i W => ∃ j : Nat, j + m = cl ∧ i = .int .i64 j ∧ ∃ vp vl vc xs bs, l = .slice vp vl vc ∧ RowI (w.heap.size + 2) W c j vp vl vc xs bs ∧ Keeps (fun _ => False) w2 W)
    case atStart => exact ⟨0, by omega, rfl, none, 0, 0, [], [], rfl, RowI.start _ _ _, Keeps.refl _ _⟩
    case round =>
      obtain ⟨j, hjm, rfl, vp, vl, vc, xs, bs, rfl, hI, hk⟩ := hrel
      have hbr := hk.heap hb2
      obtain ⟨b0, b1, b2, b3, q0, q1, q2, q3⟩ := box4 hbr
      have HJ := Lib.hid hjm
      have HRI := Lib.hid hI
      have HKr := Lib.hid hk
      have hks := hk.size
      clear hjm
      by_cases hlt : j < cl
      · have htr := ht2.next hk
        obtain ⟨kb, ko, rfl, hAk, hkb⟩ := htr.kids.hasAddr (by omega)
        obtain ⟨k1, n1, t1, s1, r1, hdr⟩ := Fo.drop_lt j c (by rw [HL.out]; exact hlt)
        obtain ⟨cp1, cl1, cc1, hn1⟩ := htr.kids.at_ j hdr hlt
        have hcN1 : s1.nodes < N := by
          have h1 := Fo.nodes_drop j c
          rw [hdr] at h1
          simp only [Fo.nodes] at h1
          omega
        have hz := HI.out (by omega) k1 n1 t1 s1 A cp1 cl1 cc1 wr hcN1 hn1.tv
        have hsz1 := hn1.size
        have HD := Lib.hid hdr
        have a0 := hn1.c0
        have a1 := hn1.c1
        have a2 := hn1.c2
        have a3 := hn1.c3
        have hi0' : (0 : Int) ≤ (j : Int) := Int.natCast_nonneg _
        have hi1 : (j : Int) < (cl : Int) := by omega
        have hj : j + 1 ≤ maxLen := by unfold maxLen; omega
        clear hdr hn1 htr hI hk
        go_wp2_with fail
        refine hz.mono ?_
        clear hz a0 a1 a2 a3 b0 b1 b2 b3 q0 q1 q2 q3
        rintro e W2 ⟨cp2, cl2, cc2, bs1, rfl, hO, hNw, hk2⟩
        obtain ⟨Wp, hWp⟩ : ∃ Wp, Wp = W2.alloc (.cells (four k1 n1 t1 cp2 cl2 cc2) T) := ⟨_, rfl⟩
        have hkp : Keeps (fun _ => False) W2 Wp := by rw [hWp]; exact (Keeps.refl _ W2).alloc _
        have hbp : Wp.heap[W2.heap.size]? = some (.cells (four k1 n1 t1 cp2 cl2 cc2) T (0, 0)) := by rw [hWp]; exact heap_alloc_new _ _
        obtain ⟨a0, a1, a2, a3, _⟩ := box4 hbp
        have hrow := (HRI.out.keeps (hk2.trans hkp) (fun _ h => h.elim)).row
        have hsp := hkp.size
        have hs2' := hk2.size
        have HWp := Lib.hid hWp
        have HO := Lib.hid hO
        have HNw := Lib.hid hNw
        have HK2 := Lib.hid hk2
        have HKP := Lib.hid hkp
        rw [hWp] at a0 a1 a2 a3
        clear hWp hO hNw hk2 hkp hbp
        go_upto_region 6 with fail
        rw [← HWp.out]
        rw [← HWp.out] at a0 a1 a2 a3
        go_wp2_with (at_builtin; refine wpList_append_lies _ rfl _ _ _ rfl 0 T i0 _ 4 64 Try.underlying22 hi0 hz0 hz1 hz2 rfl (by decide) (.slice vp vl vc) j xs rfl (hrow.alloc _) ⟨Wp.heap.size, 0, none⟩ 1 1 [.string k1, .int .i64 n1, .string t1, .slice cp2 cl2 cc2] rfl rfl (World.news_of_block (cs := #[.string k1, .int .i64 n1, .string t1, .slice cp2 cl2 cc2]) (t := T) (fr := (0, 0)) (heap_alloc_new Wp _)) (by simp [Value.oneCell']) (by omega) hj (by omega) (by omega) (Wp.heap.size + 1) (by simp) ?_; intro gg cap w3 hown3 hgrow3 hat3 hlt3)
        go_roundg (gk - 1)
        case measure => have := HJ.out; omega
        case rel =>
          have hks1 := HKr.out.size
          obtain ⟨h1, h2⟩ := HRI.out.push (by omega) HD.out hsz1 HO.out HNw.out HK2.out (HKP.out.alloc _) hown3 hgrow3 (by simpa using hat3) hlt3
          exact ⟨j + 1, by have := HJ.out; omega, by go_num, _, _, _, _, _, rfl, h1, (((HKr.out.trans HK2.out).trans HKP.out).alloc _).trans' h2 (fun b hb hl => by have := (HRI.out.lo hb).1; omega)⟩
      · have hbres := hk.heap hr2
        obtain ⟨r0, r1, r2, r3, g0, g1, g2, g3⟩ := box4 hbres
        have hfin : ∀ W', Keeps (fun b => b = w.heap.size ∨ b = w.heap.size + 1) wr W' → TwinR k n t c w (.returned (tv k n t vp vl vc)) W' := fun W' hk' => by
          have hlen : c.len = j := by have := HL.out; have := HJ.out; omega
          have h1 := HRI.out.keeps hk' (fun b hb => by omega)
          exact ⟨vp, vl, vc, _, rfl, h1.own hlen, h1.news.mono (by omega), (hK.trans HKr.out).trans' hk' (fun b hb hl => by omega)⟩
        have HF := Lib.hid hfin
        clear hfin hI hk hbr hbres
        go_wp2_with fail
        refine bodyPost_ret (v := tv k n t vp vl vc) (by simp [results, Try.results63, go_sem, r0, r1, r2, r3]) rfl ?_
        refine HF.out _ ?_
        have h0 := Keeps.refl (fun b => b = w.heap.size ∨ b = w.heap.size + 1) wr
        exact ((((h0.setCell (p := ⟨w.heap.size, 3, none⟩) (fun _ => .inl rfl) _).setCell (p := ⟨w.heap.size + 1, 0, none⟩) (fun _ => .inr rfl) _).setCell (p := ⟨w.heap.size + 1, 1, none⟩) (fun _ => .inr rfl) _).setCell (p := ⟨w.heap.size + 1, 2, none⟩) (fun _ => .inr rfl) _).setCell (p := ⟨w.heap.size + 1, 3, none⟩) (fun _ => .inr rfl) _
end Go.Proofs.Ytnphhibfiklfjaa
