/-
  Merged texts: XFndA, XMBackP.
-/
import Derived.Test.YtccoihmibkpedaaFnd

import Derived.Test.YtccoihmibkpedaaPkF

import Derived.Test.YtccoihmibkpedaaPkD

set_option linter.unusedVariables false

set_option linter.unusedSimpArgs false

/-!
  match.Find: its walk.
-/
namespace Go.Proofs.Ytccoihmibkpedaa

open Go.RowKit

theorem Lists.low {D D' te e s : Nat} {W : World} {lv : Value} {vs : List Value} {cs : List (Nat × List Value)} (h : Lists D te e s W lv vs cs) (hD : D' ≤ D) : Lists D' te e s W lv vs cs :=
  ⟨⟨h.row.1, h.row.2.imp id (fun ⟨g, cap, cur, a, b, c⟩ => ⟨g, cap, cur, a, Nat.le_trans hD b, c⟩)⟩, h.len, fun i v c hv hc => ⟨(h.rows i v c hv hc).1, (h.rows i v c hv hc).2.imp id (fun ⟨g, cap, cur, a, b, z⟩ => ⟨g, cap, cur, a, Nat.le_trans hD b, z⟩)⟩, h.apart⟩
/-- What Find gives. -/
def MFindR (L : List (List Int)) (w : World) (e : Ending) (w' : World) : Prop :=
  ∃ lp ll lc vs, e = .returned (.slice lp ll lc) ∧ PathsI w.heap.size w' L lp ll lc vs ∧ Keeps (fun _ => False) w w'
set_option maxRecDepth 100000 in
set_option maxHeartbeats 3200000 in
theorem MFind_any (p t : Nd) (cp tp : Option Addr) (cl cc tl tc : Nat) (A A' : Nat → Prop) (w : World) (h : Tv w A p.k p.t p.c cp cl cc) (h' : Tv w A' t.k t.t t.c tp tl tc) :
    Calls Try.prog 22 #[tv p.k p.n p.t cp cl cc, tv t.k t.n t.t tp tl tc] w (MFindR (findF p t) w) := by
  have hmf : ∀ (fn : Fn) (first cap : Array Value) (w : World), (Instr.makeFunc fn first cap).run Try.prog w = .ok (.func fn first cap) w := fun _ _ _ _ => rfl
  obtain ⟨W1, hW1⟩ : ∃ W1, W1 = (w.alloc (.cells (four p.k p.n p.t cp cl cc) T)).alloc (.cells (four t.k t.n t.t tp tl tc) T) := ⟨_, rfl⟩
  have hK : Keeps (fun _ => False) w W1 := by rw [hW1]; exact ((Keeps.refl _ w).alloc _).alloc _
  have hs1 : W1.heap.size = w.heap.size + 2 := by rw [hW1]; simp
  have hb1 : W1.heap[w.heap.size]? = some (.cells (four p.k p.n p.t cp cl cc) T (0, 0)) := by
    rw [hW1]
    exact ((Keeps.refl (fun _ => False) (w.alloc (.cells (four p.k p.n p.t cp cl cc) T))).alloc _).heap (heap_alloc_new _ _)
  have hb2 : W1.heap[w.heap.size + 1]? = some (.cells (four t.k t.n t.t tp tl tc) T (0, 0)) := by
    rw [hW1]
    have := heap_alloc_new (w.alloc (.cells (four p.k p.n p.t cp cl cc) T)) (.cells (four t.k t.n t.t tp tl tc) T)
    simpa using this
  have hp1 := h.top.next hK
  have ht1 := h'.top.next hK
  have hn1 : NodeAt W1 (fun b => b < w.heap.size + 2) w.heap.size 0 p.k p.n p.t p.c cp cl cc := by
    obtain ⟨r0, r1, r2, r3, _⟩ := box4 hb1
    exact ⟨hp1.size, hp1.lc, hp1.cm, r0, r1, r2, r3, hp1.kids.mono (fun b hb => by omega)⟩
  have hn2 : NodeAt W1 (fun b => b < w.heap.size + 2) (w.heap.size + 1) 0 t.k t.n t.t t.c tp tl tc := by
    obtain ⟨r0, r1, r2, r3, _⟩ := box4 hb2
    exact ⟨ht1.size, ht1.lc, ht1.cm, r0, r1, r2, r3, ht1.kids.mono (fun b hb => by omega)⟩
  have hm1 := pMay_any p cp cl cc _ W1 hp1
  have hm2 : Hid (∀ W, Keeps (fun _ => False) W1 W → Calls Try.prog 30 #[tv t.k t.n t.t tp tl tc] W fun e w' => e = .returned (.int .i64 (mayF t)) ∧ Keeps (fun _ => False) W w') := Lib.hid fun W hk => May_any t tp tl tc _ W (ht1.next hk)
  obtain ⟨b0, b1, b2, b3, _⟩ := box4 hb1
  obtain ⟨rp, hrp⟩ : ∃ r, pmayF p = r := ⟨_, rfl⟩
  obtain ⟨rt, hrt⟩ : ∃ r, mayF t = r := ⟨_, rfl⟩
  rw [hrp] at hm1
  rw [hrt] at hm2
  have HW := Lib.hid hW1
  have HB2 := Lib.hid hb2
  have HS1 := Lib.hid hs1
  have HN1 := Lib.hid hn1
  have HN2 := Lib.hid hn2
  clear hW1 hb1 hb2 hs1 hn1 hn2 hp1 ht1 h h'
  by_cases h1 : rp = 0
  · by_cases h2 : rt = 0
    · subst h1
      subst h2
      have hpo := patOK_of hrp
      have hsp : p.small := mayF_small (pmayF_zero hrp).1
      have hst : t.small := mayF_small hrt
      have hFF : Hid (findF p t = fndF p [] t) := by show findF p t = _; unfold findF; rw [if_pos ⟨hrp, hrt⟩]; rfl
      clear hrp hrt
      go_enter Try.func22, Try.ntmps22
      go_upto_region 1 with fail
      rw [← HW.out]
      go_wp2_with fail
      refine hm1.mono ?_
      clear hm1 b0 b1 b2 b3
      rintro e W ⟨rfl, hk⟩
      obtain ⟨d0, d1, d2, d3, _⟩ := box4 (hk.heap HB2.out)
      have hm2' := hm2.out W hk
      clear hm2
      go_wp2_with fail
      refine hm2'.mono ?_
      clear hm2' d0 d1 d2 d3
      rintro e W2 ⟨rfl, hk2⟩
      have hk12 := hk.trans hk2
      have hsz2 := hk12.size
      obtain ⟨Lb, hLb⟩ : ∃ b, b = W2.heap.size := ⟨_, rfl⟩
      obtain ⟨W3, hW3⟩ : ∃ W3, W3 = (W2.alloc (.cells #[.slice none 0 0] 43)).alloc (.cells #[.func (.func 67) #[] #[.pointer (some ⟨w.heap.size, 0, none⟩), .pointer (some ⟨W2.heap.size, 0, none⟩), .pointer (some ⟨W2.heap.size + 1, 0, none⟩)]] 114) := ⟨_, rfl⟩
      have hk3 : Keeps (fun _ => False) W2 W3 := by rw [hW3]; exact ((Keeps.refl _ _).alloc _).alloc _
      have hs3 : W3.heap.size = Lb + 2 := by rw [hW3, hLb]; simp
      have hl3 : W3.heap[Lb]? = some (.cells #[.slice none 0 0] 43 (0, 0)) := by
        rw [hW3, hLb]
        exact ((Keeps.refl (fun _ => False) (W2.alloc (.cells #[.slice none 0 0] 43))).alloc _).heap (heap_alloc_new _ _)
      have ho3 : W3.heap[Lb + 1]? = some (.cells #[.func (.func 67) #[] #[.pointer (some ⟨w.heap.size, 0, none⟩), .pointer (some ⟨Lb, 0, none⟩), .pointer (some ⟨Lb + 1, 0, none⟩)]] 114 (0, 0)) := by
        rw [hW3, hLb]
        have := heap_alloc_new (W2.alloc (.cells #[.slice none 0 0] 43)) (.cells #[.func (.func 67) #[] #[.pointer (some ⟨w.heap.size, 0, none⟩), .pointer (some ⟨W2.heap.size, 0, none⟩), .pointer (some ⟨W2.heap.size + 1, 0, none⟩)]] 114)
        simpa using this
      have hLw : w.heap.size + 2 ≤ Lb := by have := HS1.out; omega
      have hk13 := hk12.trans hk3
      have hJ : FndJ (fun b => b < w.heap.size + 2) w.heap.size Lb (Lb + 1) (Lb + 2) p cp cl cc [] W3 none 0 0 [] := ⟨HN1.out.next hk13 (by have := HS1.out; omega), hl3, ho3, PathsI.start _ _⟩
      have hov := fover_any (fun b => b < w.heap.size + 2) w.heap.size Lb (Lb + 1) (Lb + 2) p cp cl cc hpo hsp (fun b hb => by omega) (by show w.heap.size < _; omega) ⟨by omega, by omega⟩ ⟨by omega, by omega⟩ (by omega) (t.c.nodes + 1) (by have := small_nodes hst; omega) t [] (.slice none 0 0) (w.heap.size + 1) 0 tp tl tc [] none 0 0 [] W3 (by omega) (by have := small_nodes hst; simp; omega) (by have := small_nodes hst; simp; omega) (by omega) hst (by show w.heap.size + 1 < _; omega) (HN2.out.next hk13 (by have := HS1.out; omega)) ⟨World.ownsRow_nil _ _ _ _, fun _ => rfl⟩ hJ
      have o0 : W3.cell? ⟨Lb + 1, 0, none⟩ = some (.func (.func 67) #[] #[.pointer (some ⟨w.heap.size, 0, none⟩), .pointer (some ⟨Lb, 0, none⟩), .pointer (some ⟨Lb + 1, 0, none⟩)]) := by simp [World.cell?, ho3]
      have HW3 : Hid (W3 = (W2.alloc (.cells #[.slice none 0 0] 43)).alloc (.cells #[.func (.func 67) #[] #[.pointer (some ⟨w.heap.size, 0, none⟩), .pointer (some ⟨Lb, 0, none⟩), .pointer (some ⟨Lb + 1, 0, none⟩)]] 114)) := by show _ = _; rw [hW3, hLb]
      have HLB := Lib.hid hLb
      have HK13 := Lib.hid (hK.trans hk13)
      have HS3 := Lib.hid hs3
      clear hW3 hLb hJ hl3 ho3 hs3 hk13 hk12 hk3 hk2 hk
      go_upto_region 6 with fail
      rw [← HLB.out]
      rw [← HW3.out]
      go_wp2_with fail
      refine hov.mono ?_
      clear hov o0
      rintro e W4 ⟨rfl, lp, ll, lc, vs, hJ4, hk4, hg4⟩
      have l0 : W4.cell? ⟨Lb, 0, none⟩ = some (.slice lp ll lc) := by simp [World.cell?, hJ4.box]
      have HJ4 := Lib.hid hJ4
      clear hJ4
      go_wp2_with fail
      go_ret
      refine ⟨lp, ll, lc, vs, rfl, ?_, HK13.out.trans' hk4 (fun b hb hl => ?_)⟩
      · rw [hFF.out]
        have := HJ4.out.row
        rw [List.nil_append] at this
        exact Lists.low this (by omega)
      · rcases hb with hb | hb
        · omega
        · simp [Value.ownBlock] at hb
    · have hne : (rt != 0) = true := by simpa using h2
      subst h1
      have hFF : Hid (findF p t = []) := by show findF p t = _; unfold findF; rw [if_neg (fun hh => h2 (hrt ▸ hh.2))]
      clear hrp hrt
      go_enter Try.func22, Try.ntmps22
      go_upto_region 1 with fail
      rw [← HW.out]
      go_wp2_with fail
      refine hm1.mono ?_
      clear hm1 b0 b1 b2 b3
      rintro e W ⟨rfl, hk⟩
      obtain ⟨d0, d1, d2, d3, _⟩ := box4 (hk.heap HB2.out)
      have hm2' := hm2.out W hk
      clear hm2
      go_wp2_with fail
      refine hm2'.mono ?_
      clear hm2' d0 d1 d2 d3
      rintro e W2 ⟨rfl, hk2⟩
      go_wp2_with fail
      go_ret
      exact ⟨none, 0, 0, [], rfl, by rw [hFF.out]; exact PathsI.start _ _, (hK.trans hk).trans hk2⟩
  · have hne : (rp != 0) = true := by simpa using h1
    have hFF : Hid (findF p t = []) := by show findF p t = _; unfold findF; rw [if_neg (fun hh => h1 (hrp ▸ hh.1))]
    clear hrp hrt
    go_enter Try.func22, Try.ntmps22
    go_upto_region 1 with fail
    rw [← HW.out]
    go_wp2_with fail
    refine hm1.mono ?_
    clear hm1 b0 b1 b2 b3
    rintro e W ⟨rfl, hk⟩
    go_wp2_with fail
    go_ret
    exact ⟨none, 0, 0, [], rfl, by rw [hFF.out]; exact PathsI.start _ _, hK.trans hk⟩
end Go.Proofs.Ytccoihmibkpedaa

/-!
  espalierlaw24.MatchBack: plain law of its last loop; the list of paths read; what its rounds keep.
-/
namespace Go.Proofs.Ytccoihmibkpedaa

open Go.RowKit

/-- Does it fit there? -/
noncomputable def fitsAt (p : Nd) (e : List Int × Nd) : Bool := (fitsF p e.2).isSome
theorem findF_all {p t : Nd} (ht : mayF t = 0) : findF p t = ((pre [] t).filter (fitsAt p)).map (·.1) := by
  by_cases hp : pmayF p = 0
  · exact findF_fits ht hp
  · rw [findF, if_neg (fun h => hp h.1)]
    have : ∀ e, fitsAt p e = false := fun e => by simp [fitsAt, fitsF, hp]
    rw [List.filter_eq_nil_iff.2 (fun e _ => by simp [this e])]
    rfl
theorem findF_no {p t : Nd} (h : ¬ mayF t = 0) : findF p t = [] := by rw [findF, if_neg (fun hh => h hh.2)]
theorem fitsF_no {p t : Nd} (h : ¬ mayF t = 0) : fitsF p t = none := by rw [fitsF, if_neg (fun hh => h hh.2.1)]
/-- How many fit among the first j. -/
noncomputable def fcnt (p : Nd) (L : List (List Int × Nd)) (j : Nat) : Nat := (L.take j).countP (fitsAt p)
theorem fcnt_zero (p : Nd) (L : List (List Int × Nd)) : fcnt p L 0 = 0 := by simp [fcnt]
theorem fcnt_le (p : Nd) (L : List (List Int × Nd)) (j : Nat) : fcnt p L j ≤ L.length := by
  have h1 := List.countP_le_length (p := fitsAt p) (l := L.take j)
  have h2 : (L.take j).length ≤ L.length := by rw [List.length_take]; omega
  unfold fcnt
  omega
theorem fcnt_step {p : Nd} {L : List (List Int × Nd)} {j : Nat} {e : List Int × Nd} (h : L[j]? = some e) : fcnt p L (j + 1) = fcnt p L j + (if fitsAt p e then 1 else 0) := by
  unfold fcnt
  rw [List.take_add_one, h, List.countP_append]
  simp [List.countP_cons]
theorem fcnt_at {p : Nd} {L : List (List Int × Nd)} {j : Nat} {e : List Int × Nd} (h : L[j]? = some e) (hf : fitsAt p e = true) : ((L.filter (fitsAt p)).map (·.1))[fcnt p L j]? = some e.1 := by
  have hj : j < L.length := (List.getElem?_eq_some_iff.1 h).1
  have hs : L = L.take j ++ e :: L.drop (j + 1) := by
    have := (List.getElem?_eq_some_iff.1 h).2
    rw [← this, List.getElem_cons_drop, List.take_append_drop]
  have hl : ((L.take j).filter (fitsAt p)).length = fcnt p L j := by rw [fcnt, List.countP_eq_length_filter]
  rw [List.getElem?_map]
  have : (L.filter (fitsAt p))[fcnt p L j]? = some e := by
    conv => lhs; rw [hs]
    rw [List.filter_append, List.filter_cons_of_pos hf, ← hs, ← hl, List.getElem?_append_right (Nat.le_refl _), Nat.sub_self]
    rfl
  rw [this]
  rfl
theorem fcnt_all (p : Nd) (L : List (List Int × Nd)) : fcnt p L L.length = ((L.filter (fitsAt p)).map (·.1)).length := by
  rw [fcnt, List.take_length, List.length_map, List.countP_eq_length_filter]
theorem own_ints {W : World} {D : Nat} {v : Value} {p : List Int} (h : W.ownsRow D 3 1 v p.length (p.map vint)) : ∃ pp pc, v = .slice pp p.length pc ∧ Ints W (fun b => b < W.heap.size) p pp p.length := by
  obtain ⟨pp, cap, rfl, h1, h2, h3⟩ := ownsRow_slice h
  refine ⟨pp, cap, rfl, rfl, by unfold maxLen at h2; omega, fun h0 => ?_⟩
  obtain ⟨g, rfl⟩ := h3 h0
  refine ⟨g, 0, rfl, (h.lt g rfl).2, (h.lt g rfl).2, fun i hi => ?_⟩
  have := h.cellAt i (by omega)
  rw [Nat.zero_add, this]
  simp [List.getD_eq_getElem?_getD, List.getElem?_eq_getElem hi]
theorem PathsI.get {D : Nat} {W : World} {L : List (List Int)} {lp : Option Addr} {ll lc : Nat} {vs : List Value} (h : PathsI D W L lp ll lc vs) {k : Nat} {p : List Int} (hk : L[k]? = some p) :
    ∃ g pp pc, lp = some ⟨g, 0, none⟩ ∧ g < W.heap.size ∧ W.cell? ⟨g, k, none⟩ = some (.slice pp p.length pc) ∧ Ints W (fun b => b < W.heap.size) p pp p.length := by
  have hl := h.len
  have hkl : k < L.length := (List.getElem?_eq_some_iff.1 hk).1
  have hr := h.row
  obtain ⟨pp0, cap, he, h1, h2, h3⟩ := ownsRow_slice hr
  simp only [Value.slice.injEq] at he
  obtain ⟨rfl, rfl, rfl⟩ := he
  obtain ⟨g, rfl⟩ := h3 (by omega)
  have hv : vs[k]? = some (vs[k]'(by omega)) := List.getElem?_eq_getElem (by omega)
  have ho := h.rows k _ (p.length, p.map vint) hv (by rw [List.getElem?_map, hk]; rfl)
  obtain ⟨pp, pc, hpv, hi⟩ := own_ints ho
  refine ⟨g, pp, pc, rfl, (hr.lt g rfl).2, ?_, hi⟩
  rw [hr.cellAt k (by omega), hv, hpv]
theorem PathsI.leng {D : Nat} {W : World} {L : List (List Int)} {lp : Option Addr} {ll lc : Nat} {vs : List Value} (h : PathsI D W L lp ll lc vs) : ll = L.length := by
  rw [row_len h.row, h.len]
theorem PathsI.next {D : Nat} {W W1 : World} {L : List (List Int)} {lp : Option Addr} {ll lc : Nat} {vs : List Value} (h : PathsI D W L lp ll lc vs) {S : Nat → Prop} (hk : Keeps S W W1) (hS : ∀ b, S b → b < D ∨ W.heap.size ≤ b) : PathsI D W1 L lp ll lc vs :=
  Lists.keeps h hk (fun b hb hB => by have := Lists.lo h hB; have := hS b hb; omega)
theorem ownsRow_kp {w w' : World} {D n : Nat} {e : TypeId} {v : Value} {xs : List Value} {S : Nat → Prop} (h : w.ownsRow D e 1 v n xs) (hk : Keeps S w w') (hS : ∀ b, v.ownBlock = some b → ¬ S b) : w'.ownsRow D e 1 v n xs := by
  refine ownsRow_same h (fun b hb => ?_)
  cases ho : v.ownBlock with
  | none => rw [ho] at hb; simp at hb
  | some g =>
    rw [ho] at hb
    simp only [Option.toList_some, List.mem_singleton] at hb
    subst hb
    exact hk.block b (h.lt b ho).2 (hS b ho)
/-- What the rounds keep: Kb: the counter's block; f: what it tells. -/
def CJ (f : Nat → Nat) (It : Nat → Prop) (W0 : World) (Kb : Nat) (j : Nat) (B : Nat → Prop) (W : World) : Prop :=
  (∀ b, b < W0.heap.size → ¬ It b → B b) ∧ Keeps (fun b => It b ∨ b = Kb) W0 W ∧ W.heap[Kb]? = some (.cells #[.int .i64 (f j : Int)] 3 (0, 0))
theorem CJ.stab {f : Nat → Nat} {It : Nat → Prop} {W0 : World} {Kb : Nat} (hK : Kb < W0.heap.size) (hKI : ¬ It Kb) (j : Nat) : Stab (CJ f It W0 Kb j) := by
  rintro B W W' ⟨h1, h2, h3⟩ hk
  have hKB : B Kb := h1 _ hK hKI
  exact ⟨h1, h2.trans' hk (fun b hb hl => .inl (Classical.byContradiction fun hi => hb (h1 b hl hi))), (hk.block _ (heap_lt h3) (fun h => h hKB)).trans h3⟩
/-- A round that leaves the counter. -/
theorem CJ.same {f : Nat → Nat} {It : Nat → Prop} {W0 : World} {Kb l : Nat} (hK : Kb < W0.heap.size) (hl : W0.heap.size ≤ l) {j : Nat} {B Y : Nat → Prop} {W W1 W2 Wn : World} (h : CJ f It W0 Kb j B W) (hB : ∀ b, B b → b < W.heap.size) (hk1 : Keeps (fun _ => False) W W1) (hk2 : Keeps (fun b => b = l) W1 W2) (hkn : Keeps (fun _ => False) W2 Wn) (hf : f (j + 1) = f j) :
    ∃ B', (∀ b, B' b → (B b ∨ Y b ∨ W.heap.size ≤ b) ∧ b < Wn.heap.size) ∧ Keeps (fun b => B b ∨ Y b) W2 Wn ∧ CJ f It W0 Kb (j + 1) B' Wn := by
  obtain ⟨h1, h2, h3⟩ := h
  have s1 := hk1.size
  have s2 := hk2.size
  have s3 := hkn.size
  have hk : Keeps (fun b => b = l) W Wn := ((hk1.mono (S' := fun b => b = l) fun _ h _ => h.elim).trans' hk2 (fun b hb _ => hb)).trans' hkn (fun b hb _ => hb.elim)
  refine ⟨B, fun b hb => ⟨.inl hb, by have := hB b hb; omega⟩, hkn.mono fun _ h _ => h.elim, h1, h2.trans' hk (fun b hb hbl => by omega), ?_⟩
  rw [hf, ← h3]
  exact hk.block _ (heap_lt h3) (by omega)
/-- A round that counts one. -/
theorem CJ.more {f : Nat → Nat} {It : Nat → Prop} {W0 : World} {Kb l : Nat} (hK : Kb < W0.heap.size) (hKI : ¬ It Kb) (hl : W0.heap.size ≤ l) {j : Nat} {B Y : Nat → Prop} {W W1 W2 Wn : World} (h : CJ f It W0 Kb j B W) (hB : ∀ b, B b → b < W.heap.size) (hk1 : Keeps (fun _ => False) W W1) (hk2 : Keeps (fun b => b = l) W1 W2) (hkn : Keeps (fun _ => False) W2 Wn) (hf : f (j + 1) = f j + 1) :
    ∃ B', (∀ b, B' b → (B b ∨ Y b ∨ W.heap.size ≤ b) ∧ b < (Wn.setCell ⟨Kb, 0, none⟩ (.int .i64 ((f j : Int) + 1))).heap.size) ∧ Keeps (fun b => B b ∨ Y b) W2 (Wn.setCell ⟨Kb, 0, none⟩ (.int .i64 ((f j : Int) + 1))) ∧ CJ f It W0 Kb (j + 1) B' (Wn.setCell ⟨Kb, 0, none⟩ (.int .i64 ((f j : Int) + 1))) := by
  obtain ⟨h1, h2, h3⟩ := h
  have hKB : B Kb := h1 _ hK hKI
  have hsz : (Wn.setCell ⟨Kb, 0, none⟩ (.int .i64 ((f j : Int) + 1))).heap.size = Wn.heap.size := by simp [World.setCell]
  have s1 := hk1.size
  have s2 := hk2.size
  have s3 := hkn.size
  have hk : Keeps (fun b => b = l ∨ b = Kb) W (Wn.setCell ⟨Kb, 0, none⟩ (.int .i64 ((f j : Int) + 1))) :=
    (((hk1.mono (S' := fun b => b = l ∨ b = Kb) fun _ h _ => h.elim).trans' hk2 (fun b hb _ => .inl hb)).trans' hkn (fun b hb _ => hb.elim)).setCell (p := ⟨Kb, 0, none⟩) (fun _ => .inr rfl) _
  have hKW := heap_lt h3
  have hKn : Wn.heap[Kb]? = some (.cells #[.int .i64 (f j : Int)] 3 (0, 0)) := (hkn.block _ (by omega) (fun h => h)).trans ((hk2.block _ (by omega) (by omega)).trans ((hk1.block _ hKW (fun h => h)).trans h3))
  refine ⟨B, fun b hb => ⟨.inl hb, by have := hB b hb; rw [hsz]; omega⟩, (hkn.mono fun _ h _ => h.elim).setCell (p := ⟨Kb, 0, none⟩) (fun _ => .inl hKB) _, h1, h2.trans' hk (fun b hb hbl => hb.elim (fun h => by omega) .inr), ?_⟩
  rw [heap_set hKn, hf]
  simp
theorem Row.leq {W : World} {v : Value} {xs : List Int} (h : Row W v xs) : xs.length ≤ 9223372036854775807 := by
  rcases h.form with ⟨_, rfl⟩ | ⟨g, cap, cur, _, _, _, h1, h2, _⟩
  · simp
  · unfold maxLen at h2; omega
theorem fits_len {p t : Nd} {L : List Bind} (h : fitsF p t = some L) : L.length ≤ 1024 := by
  unfold fitsF at h
  split at h
  · rename_i hh
    have h1 := fit1_len p.k p.n p.t p.c t []
    have h2 := small_nodes (mayF_small (pmayF_zero hh.1).1)
    simp only [Option.some.injEq] at h
    rw [h] at h1
    simp only [List.length_nil] at h1
    omega
  · simp at h
end Go.Proofs.Ytccoihmibkpedaa
