/-
  espalierlaw4.Kept, TreeAll: their walks.
-/
import Derived.Test.YtnphhibfiklfjaaPlays
import Derived.Test.YtnphhibfiklfjaaTwins
import Derived.Test.YtnphhibfiklfjaaLight
import Derived.Test.YtnphhibfiklfjaaBegun
set_option linter.unusedVariables false
set_option linter.unusedSimpArgs false
namespace Go.Proofs.Ytnphhibfiklfjaa
open Go.RowKit Go.Shelf Go.Sort

set_option maxHeartbeats 800000 in
theorem Kept_any (x : Nd) (cp up : Option Addr) (cl cc ul uc : Nat) (A A' : Nat → Prop) (w : World) (h : Tv w A x.k x.t x.c cp cl cc) (hm : MarkT w A x.c cp cl cc) (h' : Tv w A' x.k x.t x.c up ul uc) (hn : x.c.nodes ≤ 3000) :
    Calls Try.prog 23 #[tv x.k x.n x.t cp cl cc, tv x.k x.n x.t up ul uc] w fun e w' => e = .returned (.bool true) ∧ Keeps (fun _ => False) w w' := by
  obtain ⟨w1, hw1⟩ : ∃ w1, w1 = (w.alloc (.cells (four x.k x.n x.t cp cl cc) T)).alloc (.cells (four x.k x.n x.t up ul uc) T) := ⟨_, rfl⟩
  have hK1 : Keeps (fun _ => False) w w1 := by rw [hw1]; exact ((Keeps.refl _ w).alloc _).alloc _
  have hb1 : w1.heap[w.heap.size]? = some (.cells (four x.k x.n x.t cp cl cc) T (0, 0)) := by
    rw [hw1]
    exact ((Keeps.refl (fun _ => False) (w.alloc (.cells (four x.k x.n x.t cp cl cc) T))).alloc _).heap (heap_alloc_new _ _)
  have hb2 : w1.heap[w.heap.size + 1]? = some (.cells (four x.k x.n x.t up ul uc) T (0, 0)) := by
    rw [hw1]
    have := heap_alloc_new (w.alloc (.cells (four x.k x.n x.t cp cl cc) T)) (.cells (four x.k x.n x.t up ul uc) T)
    simpa using this
  have ht1 := h.next hK1
  have hm1 := hm.next hK1
  have hE := Eq_any (x.c.nodes + 1) x.k x.k x.n x.n x.t x.t x.c x.c _ _ cp up cl cc ul uc w1 (by omega) ht1 (h'.next hK1)
  rw [eqB_self] at hE
  have hM : Hid (∀ W, Keeps (fun _ => False) w1 W → Calls Try.prog 56 #[tv x.k x.n x.t cp cl cc] W fun e w' => e = .returned (.bool true) ∧ Keeps (fun _ => False) W w') := Lib.hid fun W hk => marks_any (x.c.nodes + 1) x.k x.n x.t x.c cp cl cc A W (by omega) (by omega) (ht1.next hk) (hm1.next hk)
  obtain ⟨a0, a1, a2, a3, _⟩ := box4 hb1
  obtain ⟨b0, b1, b2, b3, _⟩ := box4 hb2
  have HW := Lib.hid hw1
  clear hw1 ht1 hm1 h hm h'
  go_enter Try.func23, Try.ntmps23
  go_upto_region 1 with fail
  rw [← HW.out]
  go_wp2_with fail
  refine hE.mono ?_
  clear hE a0 a1 a2 a3 b0 b1 b2 b3
  rintro e W ⟨rfl, hk⟩
  obtain ⟨a0, a1, a2, a3, _⟩ := box4 (hk.heap hb1)
  go_wp2_with fail
  refine (hM.out _ hk).mono ?_
  clear a0 a1 a2 a3
  rintro e W2 ⟨rfl, hk2⟩
  go_wp2_with fail
  go_ret
  exact ⟨rfl, (hK1.trans hk).trans hk2⟩

/-- An operation's copy, half made. -/
structure TA (w W : World) (ob : Nat) (kd : Int) (x u : Nd) (path : List Int) (m1 m2 : Bool) (cp up : Option Addr) (cl cc ul uc : Nat) (pp : Option Addr) (pl pc : Nat) (st : Int) : Prop where
  box : W.heap[ob]? = some (.cells (opc kd x u cp up cl cc ul uc pp pl pc st) OT (0, 0))
  keeps : Keeps (fun _ => False) w W
  tx : Tv W (fun b => b ≠ ob) x.k x.t x.c cp cl cc
  mx : m1 = true → MarkT W (fun b => b ≠ ob) x.c cp cl cc
  tu : Tv W (fun b => b ≠ ob) u.k u.t u.c up ul uc
  mu : m2 = true → MarkT W (fun b => b ≠ ob) u.c up ul uc
  tp : Ints W (fun b => b ≠ ob) path pp pl
  pc1 : pl ≤ pc
  pc2 : pc ≤ 9223372036854775807
section
variable {w W W1 : World} {ob : Nat} {kd : Int} {x u : Nd} {path : List Int} {m1 m2 : Bool} {cp up : Option Addr} {cl cc ul uc : Nat} {pp : Option Addr} {pl pc : Nat} {st : Int}
theorem TA.next (h : TA w W ob kd x u path m1 m2 cp up cl cc ul uc pp pl pc st) (hk : Keeps (fun _ => False) W W1) : TA w W1 ob kd x u path m1 m2 cp up cl cc ul uc pp pl pc st :=
  ⟨hk.heap h.box, h.keeps.trans hk, h.tx.next hk, fun h1 => (h.mx h1).next hk, h.tu.next hk, fun h1 => (h.mu h1).next hk, h.tp.keeps hk (fun _ _ h => h), h.pc1, h.pc2⟩
theorem TA.opIn (h : TA w W ob kd x u path m1 m2 cp up cl cc ul uc pp pl pc st) (hs : (Lit.int .i64 st).wf = true) : OpIn W x u path cp up cl cc ul uc pp pl pc st := ⟨⟨_, h.tx⟩, ⟨_, h.tu⟩, ⟨_, h.tp⟩, h.pc1, h.pc2, hs⟩
theorem TA.set1 (h : TA w W ob kd x u path m1 m2 cp up cl cc ul uc pp pl pc st) (hob : w.heap.size ≤ ob) (hk : Keeps (fun _ => False) W W1) {cp' : Option Addr} {cl' cc' : Nat} (ht : Tv W1 (fun b => W.heap.size ≤ b ∧ b < W1.heap.size) x.k x.t x.c cp' cl' cc') (hm : MarkT W1 (fun b => W.heap.size ≤ b ∧ b < W1.heap.size) x.c cp' cl' cc') :
    TA w ((((W1.setCell ⟨ob, 1, none⟩ (.string x.k)).setCell ⟨ob, 2, none⟩ (.int .i64 x.n)).setCell ⟨ob, 3, none⟩ (.string x.t)).setCell ⟨ob, 4, none⟩ (.slice cp' cl' cc')) ob kd x u path true m2 cp' up cl' cc' ul uc pp pl pc st := by
  have h1 := h.next hk
  have hse : Keeps (fun b => b = ob) W1 ((((W1.setCell ⟨ob, 1, none⟩ (.string x.k)).setCell ⟨ob, 2, none⟩ (.int .i64 x.n)).setCell ⟨ob, 3, none⟩ (.string x.t)).setCell ⟨ob, 4, none⟩ (.slice cp' cl' cc')) := ((((Keeps.refl (fun b => b = ob) W1).setCell (p := ⟨ob, 1, none⟩) (fun _ => rfl) _).setCell (p := ⟨ob, 2, none⟩) (fun _ => rfl) _).setCell (p := ⟨ob, 3, none⟩) (fun _ => rfl) _).setCell (p := ⟨ob, 4, none⟩) (fun _ => rfl) _
  have hlt := heap_lt h.box
  refine ⟨?_, h1.keeps.trans' hse (fun b hb hl => by omega), ?_, fun _ => ?_, h1.tu.keeps hse (fun b hb e => hb e), fun h2 => (h1.mu h2).keeps hse (fun b hb e => hb e), h1.tp.keeps hse (fun b hb e => hb e), h.pc1, h.pc2⟩
  · rw [heap_set (heap_set (heap_set (heap_set h1.box _ _) _ _) _ _) _ _]; rfl
  · exact (ht.keeps hse (fun b hb e => by omega)).mono (fun b hb => by omega)
  · exact (hm.keeps hse (fun b hb e => by omega)).mono (fun b hb => by omega)
theorem TA.set2 (h : TA w W ob kd x u path m1 m2 cp up cl cc ul uc pp pl pc st) (hob : w.heap.size ≤ ob) (hk : Keeps (fun _ => False) W W1) {cp' : Option Addr} {cl' cc' : Nat} (ht : Tv W1 (fun b => W.heap.size ≤ b ∧ b < W1.heap.size) u.k u.t u.c cp' cl' cc') (hm : MarkT W1 (fun b => W.heap.size ≤ b ∧ b < W1.heap.size) u.c cp' cl' cc') :
    TA w ((((W1.setCell ⟨ob, 5, none⟩ (.string u.k)).setCell ⟨ob, 6, none⟩ (.int .i64 u.n)).setCell ⟨ob, 7, none⟩ (.string u.t)).setCell ⟨ob, 8, none⟩ (.slice cp' cl' cc')) ob kd x u path m1 true cp cp' cl cc cl' cc' pp pl pc st := by
  have h1 := h.next hk
  have hse : Keeps (fun b => b = ob) W1 ((((W1.setCell ⟨ob, 5, none⟩ (.string u.k)).setCell ⟨ob, 6, none⟩ (.int .i64 u.n)).setCell ⟨ob, 7, none⟩ (.string u.t)).setCell ⟨ob, 8, none⟩ (.slice cp' cl' cc')) := ((((Keeps.refl (fun b => b = ob) W1).setCell (p := ⟨ob, 5, none⟩) (fun _ => rfl) _).setCell (p := ⟨ob, 6, none⟩) (fun _ => rfl) _).setCell (p := ⟨ob, 7, none⟩) (fun _ => rfl) _).setCell (p := ⟨ob, 8, none⟩) (fun _ => rfl) _
  have hlt := heap_lt h.box
  refine ⟨?_, h1.keeps.trans' hse (fun b hb hl => by omega), h1.tx.keeps hse (fun b hb e => hb e), fun h2 => (h1.mx h2).keeps hse (fun b hb e => hb e), ?_, fun _ => ?_, h1.tp.keeps hse (fun b hb e => hb e), h.pc1, h.pc2⟩
  · rw [heap_set (heap_set (heap_set (heap_set h1.box _ _) _ _) _ _) _ _]; rfl
  · exact (ht.keeps hse (fun b hb e => by omega)).mono (fun b hb => by omega)
  · exact (hm.keeps hse (fun b hb e => by omega)).mono (fun b hb => by omega)
theorem TA.set3 (h : TA w W ob kd x u path m1 m2 cp up cl cc ul uc pp pl pc st) (hob : w.heap.size ≤ ob) (hk : Keeps (fun _ => False) W W1) {pp' : Option Addr} {pl' pc' : Nat} (hr : Row W1 (.slice pp' pl' pc') path) (hnew : ∀ g, (Value.slice pp' pl' pc').ownBlock = some g → W.heap.size ≤ g) (hlen : pl' = path.length) (hi : Ints W1 (fun b => (Value.slice pp' pl' pc').ownBlock = some b) path pp' pl') (hpc : pl' ≤ pc' ∧ pc' ≤ 9223372036854775807) :
    TA w (W1.setCell ⟨ob, 9, none⟩ (.slice pp' pl' pc')) ob kd x u path m1 m2 cp up cl cc ul uc pp' pl' pc' st := by
  have h1 := h.next hk
  have hse : Keeps (fun b => b = ob) W1 (W1.setCell ⟨ob, 9, none⟩ (.slice pp' pl' pc')) := (Keeps.refl (fun b => b = ob) W1).setCell (p := ⟨ob, 9, none⟩) (fun _ => rfl) _
  have hlt := heap_lt h.box
  refine ⟨?_, h1.keeps.trans' hse (fun b hb hl => by omega), h1.tx.keeps hse (fun b hb e => hb e), fun h2 => (h1.mx h2).keeps hse (fun b hb e => hb e), h1.tu.keeps hse (fun b hb e => hb e), fun h2 => (h1.mu h2).keeps hse (fun b hb e => hb e), ?_, hpc.1, hpc.2⟩
  · rw [heap_set h1.box]; rfl
  · exact (hi.keeps hse (fun b hb e => by have := hnew b hb; omega)).mono (fun b hb => by have := hnew b hb; omega)
end

/-- The i-th operation of the list. -/
structure OpAt (w : World) (b o : Nat) (kd : Int) (x u : Nd) (path : List Int) (cp up : Option Addr) (cl cc ul uc : Nat) (pp : Option Addr) (pl pc : Nat) (st : Int) : Prop where
  c0 : w.cell? ⟨b, o, none⟩ = some (.int .i64 kd)
  c1 : w.cell? ⟨b, o + 1, none⟩ = some (.string x.k)
  c2 : w.cell? ⟨b, o + 2, none⟩ = some (.int .i64 x.n)
  c3 : w.cell? ⟨b, o + 3, none⟩ = some (.string x.t)
  c4 : w.cell? ⟨b, o + 4, none⟩ = some (.slice cp cl cc)
  c5 : w.cell? ⟨b, o + 5, none⟩ = some (.string u.k)
  c6 : w.cell? ⟨b, o + 6, none⟩ = some (.int .i64 u.n)
  c7 : w.cell? ⟨b, o + 7, none⟩ = some (.string u.t)
  c8 : w.cell? ⟨b, o + 8, none⟩ = some (.slice up ul uc)
  c9 : w.cell? ⟨b, o + 9, none⟩ = some (.slice pp pl pc)
  c10 : w.cell? ⟨b, o + 10, none⟩ = some (.int .i64 st)
  tx : Tv w (fun b => b < w.heap.size) x.k x.t x.c cp cl cc
  tu : Tv w (fun b => b < w.heap.size) u.k u.t u.c up ul uc
  tp : Ints w (fun b => b < w.heap.size) path pp pl
  pc1 : pl ≤ pc
  pc2 : pc ≤ 9223372036854775807
  short : pl ≤ 17592186044416
  wf : (Lit.int .i64 st).wf = true
theorem OpAt.next {w w1 : World} {b o : Nat} {kd : Int} {x u : Nd} {path : List Int} {cp up : Option Addr} {cl cc ul uc : Nat} {pp : Option Addr} {pl pc : Nat} {st : Int} (h : OpAt w b o kd x u path cp up cl cc ul uc pp pl pc st) (hb : b < w.heap.size) (hk : Keeps (fun _ => False) w w1) : OpAt w1 b o kd x u path cp up cl cc ul uc pp pl pc st := by
  have hc : ∀ k v, w.cell? ⟨b, k, none⟩ = some v → w1.cell? ⟨b, k, none⟩ = some v := fun k v hv => (hk.cell (p := ⟨b, k, none⟩) hb (fun h => h)).trans hv
  exact ⟨hc _ _ h.c0, hc _ _ h.c1, hc _ _ h.c2, hc _ _ h.c3, hc _ _ h.c4, hc _ _ h.c5, hc _ _ h.c6, hc _ _ h.c7, hc _ _ h.c8, hc _ _ h.c9, hc _ _ h.c10,
    (h.tx.next hk).mono (fun b hb => Nat.lt_of_lt_of_le hb hk.size), (h.tu.next hk).mono (fun b hb => Nat.lt_of_lt_of_le hb hk.size), (h.tp.keeps hk (fun _ _ h => h)).mono (fun b hb => Nat.lt_of_lt_of_le hb hk.size), h.pc1, h.pc2, h.short, h.wf⟩
/-- A list of operations. -/
def Ops (w : World) (sp : Option Addr) (sl : Nat) : Prop := ∀ i, i < sl → ∃ b o, sp = some ⟨b, o, none⟩ ∧ b < w.heap.size ∧ ∃ kd x u path cp up cl cc ul uc pp pl pc st, OpAt w b (o + i * 11) kd x u path cp up cl cc ul uc pp pl pc st
theorem Row.caps {w : World} {p : Option Addr} {l c : Nat} {xs : List Int} (h : Row w (.slice p l c) xs) : l = xs.length ∧ l ≤ c ∧ c ≤ 9223372036854775807 := by
  rcases h.form with ⟨h1, rfl⟩ | ⟨g, cap, cur, h1, _, _, h2, h3, _⟩
  · simp only [Value.slice.injEq] at h1
    obtain ⟨_, rfl, rfl⟩ := h1
    simp
  · simp only [Value.slice.injEq] at h1
    obtain ⟨_, rfl, rfl⟩ := h1
    unfold maxLen at h3
    exact ⟨rfl, h2, h3⟩
theorem Try.intInfo2 : (Try.prog.info? 3).map (fun i => (i.zero, i.size, i.bytes)) = some (some (.int .i64 0), 1, 8) := by kernel_rfl
set_option maxRecDepth 100000 in
set_option maxHeartbeats 12800000 in
theorem treeAll_any (sp : Option Addr) (sl sc : Nat) (w : World) (h : Ops w sp sl) (hsl : sl ≤ sc) (hsc : sc ≤ 9223372036854775807) :
    Calls Try.prog 5 #[.slice sp sl sc] w fun e w' => e = .returned (.bool true) ∧ Keeps (fun _ => False) w w' := by
  have hbg := begun_any w
  have HH := Lib.hid h
  clear h
  go_enter Try.func5, Try.ntmps5
  go_wp2_with fail
  refine hbg.mono ?_
  clear hbg
  rintro e w1 ⟨rfl, hk1⟩
  go_wp2_with fail
  go_loopg [3] sl (fun m i W => ∃ j : Nat, j + m = sl ∧ i = .int .i64 j ∧ j ≤ 500 ∧ Keeps (fun _ => False) w W)
  case atStart => exact ⟨0, by omega, rfl, by omega, hk1⟩
  case round =>
    obtain ⟨j, hjm, rfl, hj5, hk⟩ := hrel
    have HJ := Lib.hid hjm
    have HK := Lib.hid hk
    clear hjm hk hk1
    by_cases hlt : j < sl
    · by_cases hj2 : j < 500
      · obtain ⟨ab, ao, rfl, hab, kd, x, u, path, cp, up, cl, cc, ul, uc, pp, pl, pc, st, hop⟩ := HH.out j hlt
        have hopr := hop.next hab HK.out
        have hksz := HK.out.size
        obtain ⟨ob, hob⟩ : ∃ ob, ob = wr.heap.size := ⟨_, rfl⟩
        obtain ⟨W1, hW1⟩ : ∃ W1, W1 = wr.alloc (.cells (opc kd x u cp up cl cc ul uc pp pl pc st) OT) := ⟨_, rfl⟩
        have hkw : Keeps (fun _ => False) wr W1 := by rw [hW1]; exact (Keeps.refl _ _).alloc _
        have hT : TA wr W1 ob kd x u path false false cp up cl cc ul uc pp pl pc st := by
          refine ⟨by rw [hW1, hob]; exact heap_alloc_new _ _, hkw, (hopr.tx.next hkw).mono (fun b hb => by omega), fun h => by simp at h, (hopr.tu.next hkw).mono (fun b hb => by omega), fun h => by simp at h, (hopr.tp.keeps hkw (fun _ _ h => h)).mono (fun b hb => by omega), hopr.pc1, hopr.pc2⟩
        have hobr : wr.heap.size ≤ ob := by omega
        have HOB := Lib.hid hob
        have HW1 := Lib.hid hW1
        obtain ⟨c0, c1, c2, c3, c4, c5, c6, c7, c8, c9, c10⟩ := (⟨hopr.c0, hopr.c1, hopr.c2, hopr.c3, hopr.c4, hopr.c5, hopr.c6, hopr.c7, hopr.c8, hopr.c9, hopr.c10⟩ : _ ∧ _ ∧ _ ∧ _ ∧ _ ∧ _ ∧ _ ∧ _ ∧ _ ∧ _ ∧ _)
        have hi0 : (0 : Int) ≤ (j : Int) := Int.natCast_nonneg _
        have hi1 : (j : Int) < (sl : Int) := by omega
        have HOP := Lib.hid hop
        clear hob hW1 hopr hop hkw
        go_upto_region 7 with fail
        rw [← HW1.out, ← HOB.out]
        have hL1 : Hid (∀ W, Keeps (fun _ => False) W1 W → Calls Try.prog 20 #[tv x.k x.n x.t cp cl cc] W fun e w' => e = .returned (.bool (decide (0 ≤ lightN x))) ∧ Keeps (fun _ => False) W w') := Lib.hid fun W hk => Light_any x cp cl cc _ W (hT.next hk).tx
        have hL2 : Hid (∀ W, Keeps (fun _ => False) W1 W → Calls Try.prog 20 #[tv u.k u.n u.t up ul uc] W fun e w' => e = .returned (.bool (decide (0 ≤ lightN u))) ∧ Keeps (fun _ => False) W w') := Lib.hid fun W hk => Light_any u up ul uc _ W (hT.next hk).tu
        obtain ⟨m1, hm1⟩ : ∃ m, decide (0 ≤ lightN x) = m := ⟨_, rfl⟩
        obtain ⟨m2, hm2⟩ : ∃ m, decide (0 ≤ lightN u) = m := ⟨_, rfl⟩
        have HM1 : Hid (m1 = true → x.c.nodes ≤ 3000) := Lib.hid fun h => lightN_nodes x (by rw [h] at hm1; exact of_decide_eq_true hm1)
        have HM2 : Hid (m2 = true → u.c.nodes ≤ 3000) := Lib.hid fun h => lightN_nodes u (by rw [h] at hm2; exact of_decide_eq_true hm2)
        rw [hm1] at hL1
        rw [hm2] at hL2
        clear hm1 hm2 c0 c1 c2 c3 c4 c5 c6 c7 c8 c9 c10
        obtain ⟨⟨o0, o1, o2⟩, ⟨a0, a1, a2, a3⟩, ⟨b0, b1, b2, b3⟩⟩ := boxO hT.box
        go_cut [5, 6] from 9 (fun v5 v6 W => v5 = .bool m1 ∧ v6 = .bool m2 ∧ Keeps (fun _ => False) W1 W)
        case first =>
          have ka0 := fun d os => cell_regrown a0 d os
          have ka1 := fun d os => cell_regrown a1 d os
          have ka2 := fun d os => cell_regrown a2 d os
          have ka3 := fun d os => cell_regrown a3 d os
          have kb0 := fun d os => cell_regrown b0 d os
          have kb1 := fun d os => cell_regrown b1 d os
          have kb2 := fun d os => cell_regrown b2 d os
          have kb3 := fun d os => cell_regrown b3 d os
          refine wp_region_quiet_below (by kernel_rfl) (by kernel_rfl) ?_
          repeat (refine wpQuiet_step (fun K hK => ?_); go_simp; first | (refine hK _ ?_; clear hK K) | (apply Exists.intro; refine ⟨fun _ => ?_, hK _ ?_⟩; (first | exact quiet_call0 hL1.out | exact quiet_call0 hL2.out); clear hK K))
          refine wpQuiet_nil ?_
          intro W8 hk8
          have hk8 := keeps_regrown hk8
          go_wp2_with fail
          go_meet
          case rel => exact ⟨rfl, rfl, hk8⟩
        case rest =>
          obtain ⟨V1, hV1⟩ : ∃ V, V = wc := ⟨_, rfl⟩
          subst hV1
          obtain ⟨rfl, rfl, hkV⟩ := hcut
          have hT := hT.next hkV
          clear hL1 hL2 a0 a1 a2 a3 b0 b1 b2 b3 o0 o1 o2 hkV HW1
          go_upto_if 29 with fail
          go_cut [] from 9 (fun W => ∃ cp' cl' cc', TA wr W ob kd x u path m1 false cp' up cl' cc' ul uc pp pl pc st)
          case first =>
            cases m1 with
            | false =>
              go_wp2_with fail
              go_meet
              case rel => exact ⟨_, _, _, hT⟩
            | true =>
              have hz := Twin_any (x.c.nodes + 1) (by have := HM1.out rfl; omega) x.k x.n x.t x.c _ cp cl cc V1 (by omega) hT.tx
              obtain ⟨_, ⟨a0, a1, a2, a3⟩, _⟩ := boxO hT.box
              go_wp2_with fail
              refine hz.mono ?_
              clear hz a0 a1 a2 a3
              rintro e W2 ⟨cp2, cl2, cc2, rfl, ht2, hmk2, hk2⟩
              have hb2 := hk2.heap hT.box
              obtain ⟨_, ⟨a0, a1, a2, a3⟩, _⟩ := boxO hb2
              have f1 : W2.frozen? ⟨ob, 1, none⟩ = false := by simp [World.frozen?, hb2]
              have f2 : W2.frozen? ⟨ob, 2, none⟩ = false := by simp [World.frozen?, hb2]
              have f3 : W2.frozen? ⟨ob, 3, none⟩ = false := by simp [World.frozen?, hb2]
              have f4 : W2.frozen? ⟨ob, 4, none⟩ = false := by simp [World.frozen?, hb2]
              have hfin := Lib.hid (hT.set1 hobr hk2 ht2 hmk2)
              clear hb2 ht2 hmk2
              go_wp2_with fail
              go_meet
              case rel => exact ⟨_, _, _, hfin.out⟩
          case rest =>
            obtain ⟨V2, hV2⟩ : ∃ V, V = wc := ⟨_, rfl⟩
            subst hV2
            obtain ⟨cp', cl', cc', hT2⟩ := hcut
            clear hT
            go_upto_if 34 with fail
            go_cut [] from 9 (fun W => ∃ cp'' cl'' cc'', TA wr W ob kd x u path m1 m2 cp' cp'' cl' cc' cl'' cc'' pp pl pc st)
            case first =>
              cases m2 with
              | false =>
                go_wp2_with fail
                go_meet
                case rel => exact ⟨_, _, _, hT2⟩
              | true =>
                have hz := Twin_any (u.c.nodes + 1) (by have := HM2.out rfl; omega) u.k u.n u.t u.c _ up ul uc V2 (by omega) hT2.tu
                obtain ⟨_, _, ⟨a0, a1, a2, a3⟩⟩ := boxO hT2.box
                go_wp2_with fail
                refine hz.mono ?_
                clear hz a0 a1 a2 a3
                rintro e W2 ⟨cp2, cl2, cc2, rfl, ht2, hmk2, hk2⟩
                have hb2 := hk2.heap hT2.box
                obtain ⟨_, _, ⟨a0, a1, a2, a3⟩⟩ := boxO hb2
                have f1 : W2.frozen? ⟨ob, 5, none⟩ = false := by simp [World.frozen?, hb2]
                have f2 : W2.frozen? ⟨ob, 6, none⟩ = false := by simp [World.frozen?, hb2]
                have f3 : W2.frozen? ⟨ob, 7, none⟩ = false := by simp [World.frozen?, hb2]
                have f4 : W2.frozen? ⟨ob, 8, none⟩ = false := by simp [World.frozen?, hb2]
                have hfin := Lib.hid (hT2.set2 hobr hk2 ht2 hmk2)
                clear hb2 ht2 hmk2
                go_wp2_with fail
                go_meet
                case rel => exact ⟨_, _, _, hfin.out⟩
            case rest =>
              obtain ⟨V3, hV3⟩ : ∃ V, V = wc := ⟨_, rfl⟩
              subst hV3
              obtain ⟨up', ul', uc', hT3⟩ := hcut
              clear hT2
              obtain ⟨i0, hi0', hz0, hz1, hz2⟩ := info_parts Try.intInfo2
              have hsh := HOP.out.short
              have htp := hT3.tp
              have hbx := hT3.box
              obtain ⟨⟨_, o1, _⟩, _, _⟩ := boxO hbx
              go_upto_region 12 with fail
              refine wp_region_lit ?_
              go_wp2_with (at_builtin; refine wpList_clone rfl _ _ _ rfl i0 _ Try.underlying32 hi0' hz0 hz1 hz2 rfl rfl pc rfl htp hsh ?_)
              intro v' w' hr' hk' hnew'
              obtain ⟨pp', pc', rfl, hints'⟩ := hr'.ints hr'.le'
              have hcaps := hr'.caps
              have hb' := hk'.heap hbx
              have n0 : w'.frozen? ⟨ob, 9, none⟩ = false := by simp [World.frozen?, hb']
              obtain ⟨⟨_, n1, _⟩, _, _⟩ := boxO hb'
              have hT4 := hT3.set3 hobr hk' hr' hnew' rfl hints' hcaps.2
              obtain ⟨V5, hV5⟩ : ∃ V5, V5 = w'.setCell ⟨ob, 9, none⟩ (.slice pp' path.length pc') := ⟨_, rfl⟩
              rw [← hV5] at hT4
              have HV5 := Lib.hid hV5
              clear hT3 hr' hk' hnew' hints' hcaps hb' hbx htp o1 hsh hV5
              go_upto_region 13 with fail
              rw [← HV5.out]
              clear n0 n1
              have hP1 : Hid (∀ W, Keeps (fun _ => False) V5 W → Calls Try.prog 22 #[opv kd x u cp' up' cl' cc' ul' uc' pp' path.length pc' st] W fun e w' => e = .returned (.bool true) ∧ Keeps (fun _ => False) W w') := Lib.hid fun W hk => plays_any kd x u path cp' up' cl' cc' ul' uc' pp' path.length pc' st W ((hT4.next hk).opIn HOP.out.wf)
              have hP2 : Hid (∀ W, Keeps (fun _ => False) V5 W → Calls Try.prog 16 #[.slice pp' path.length pc', .slice pp pl pc] W fun e w' => e = .returned (.bool true) ∧ Keeps (fun _ => False) W w') := Lib.hid fun W hk => by
                have := EqPath_any path path pp' pp path.length pl pc' pc _ _ W (hT4.next hk).tp (HOP.out.next hab ((HK.out.trans hT4.keeps).trans hk)).tp
                rwa [decide_eq_true rfl] at this
              have c9 := (HOP.out.next hab (HK.out.trans hT4.keeps)).c9
              obtain ⟨⟨o0, o1, o2⟩, ⟨a0, a1, a2, a3⟩, ⟨b0, b1, b2, b3⟩⟩ := boxO hT4.box
              have HT4 := Lib.hid hT4
              clear hT4 HV5
              go_cut [56] from 9 (fun v W => v = .bool false ∧ Keeps (fun _ => False) V5 W)
              case first =>
                have ko0 := fun d os => cell_regrown o0 d os
                have ko1 := fun d os => cell_regrown o1 d os
                have ko2 := fun d os => cell_regrown o2 d os
                have ka0 := fun d os => cell_regrown a0 d os
                have ka1 := fun d os => cell_regrown a1 d os
                have ka2 := fun d os => cell_regrown a2 d os
                have ka3 := fun d os => cell_regrown a3 d os
                have kb0 := fun d os => cell_regrown b0 d os
                have kb1 := fun d os => cell_regrown b1 d os
                have kb2 := fun d os => cell_regrown b2 d os
                have kb3 := fun d os => cell_regrown b3 d os
                have kc9 := fun d os => cell_regrown c9 d os
                refine wp_region_quiet_below (by kernel_rfl) (by kernel_rfl) ?_
                repeat (refine wpQuiet_step (fun K hK => ?_); go_simp; first | (refine hK _ ?_; clear hK K) | (apply Exists.intro; refine ⟨fun _ => ?_, hK _ ?_⟩; (first | exact quiet_call0 hP1.out | exact quiet_call0 hP2.out); clear hK K))
                refine wpQuiet_nil ?_
                intro W8 hk8
                have hk8 := keeps_regrown hk8
                go_wp2_with fail
                go_meet
                case rel => exact ⟨rfl, hk8⟩
              case rest =>
                obtain ⟨V6, hV6⟩ : ∃ V, V = wc := ⟨_, rfl⟩
                subst hV6
                obtain ⟨rfl, hk6⟩ := hcut
                have hT6 := HT4.out.next hk6
                have hop6 := HOP.out.next hab (HK.out.trans hT6.keeps)
                have hQ1 : Hid (m1 = true → ∀ W, Keeps (fun _ => False) V6 W → Calls Try.prog 23 #[tv x.k x.n x.t cp' cl' cc', tv x.k x.n x.t cp cl cc] W fun e w' => e = .returned (.bool true) ∧ Keeps (fun _ => False) W w') := Lib.hid fun hm W hk =>
                  Kept_any x cp' cp cl' cc' cl cc _ _ W (hT6.next hk).tx ((hT6.next hk).mx hm) (hop6.next (by have := hT6.keeps.size; have := HK.out.size; omega) hk).tx (HM1.out hm)
                have hQ2 : Hid (m2 = true → ∀ W, Keeps (fun _ => False) V6 W → Calls Try.prog 23 #[tv u.k u.n u.t up' ul' uc', tv u.k u.n u.t up ul uc] W fun e w' => e = .returned (.bool true) ∧ Keeps (fun _ => False) W w') := Lib.hid fun hm W hk =>
                  Kept_any u up' up ul' uc' ul uc _ _ W (hT6.next hk).tu ((hT6.next hk).mu hm) (hop6.next (by have := hT6.keeps.size; have := HK.out.size; omega) hk).tu (HM2.out hm)
                have c1 := hop6.c1
                have c2 := hop6.c2
                have c3 := hop6.c3
                have c4 := hop6.c4
                have c5 := hop6.c5
                have c6 := hop6.c6
                have c7 := hop6.c7
                have c8 := hop6.c8
                clear o0 o1 o2 a0 a1 a2 a3 b0 b1 b2 b3 c9 hP1 hP2
                obtain ⟨_, ⟨a0, a1, a2, a3⟩, ⟨b0, b1, b2, b3⟩⟩ := boxO hT6.box
                have HT6 := Lib.hid hT6
                clear hT6 hop6
                go_upto_region 15 with fail
                go_cut [82] from 9 (fun v W => v = .bool false ∧ Keeps (fun _ => False) V6 W)
                case first =>
                  have ka0 := fun d os => cell_regrown a0 d os
                  have ka1 := fun d os => cell_regrown a1 d os
                  have ka2 := fun d os => cell_regrown a2 d os
                  have ka3 := fun d os => cell_regrown a3 d os
                  have kb0 := fun d os => cell_regrown b0 d os
                  have kb1 := fun d os => cell_regrown b1 d os
                  have kb2 := fun d os => cell_regrown b2 d os
                  have kb3 := fun d os => cell_regrown b3 d os
                  have kc1 := fun d os => cell_regrown c1 d os
                  have kc2 := fun d os => cell_regrown c2 d os
                  have kc3 := fun d os => cell_regrown c3 d os
                  have kc4 := fun d os => cell_regrown c4 d os
                  have kc5 := fun d os => cell_regrown c5 d os
                  have kc6 := fun d os => cell_regrown c6 d os
                  have kc7 := fun d os => cell_regrown c7 d os
                  have kc8 := fun d os => cell_regrown c8 d os
                  rcases (show (m1 = false ∧ m2 = false) ∨ (m1 = false ∧ m2 = true) ∨ (m1 = true ∧ m2 = false) ∨ (m1 = true ∧ m2 = true) by cases m1 <;> cases m2 <;> simp) with ⟨rfl, rfl⟩ | ⟨rfl, rfl⟩ | ⟨rfl, rfl⟩ | ⟨rfl, rfl⟩
                  · refine wp_region_quiet_below (by kernel_rfl) (by kernel_rfl) ?_
                    repeat (go_big_quiet_step (fail))
                    refine wpQuiet_nil ?_
                    intro W8 hk8
                    have hk8 := keeps_regrown hk8
                    go_wp2_with fail
                    go_meet
                    case rel => exact ⟨rfl, hk8⟩
                  · refine wp_region_quiet_below (by kernel_rfl) (by kernel_rfl) ?_
                    repeat (go_big_quiet_step (exact quiet_call0 (hQ2.out rfl)))
                    refine wpQuiet_nil ?_
                    intro W8 hk8
                    have hk8 := keeps_regrown hk8
                    go_wp2_with fail
                    go_meet
                    case rel => exact ⟨rfl, hk8⟩
                  · refine wp_region_quiet_below (by kernel_rfl) (by kernel_rfl) ?_
                    repeat (go_big_quiet_step (exact quiet_call0 (hQ1.out rfl)))
                    refine wpQuiet_nil ?_
                    intro W8 hk8
                    have hk8 := keeps_regrown hk8
                    go_wp2_with fail
                    go_meet
                    case rel => exact ⟨rfl, hk8⟩
                  · have hR1 := hQ1.out rfl
                    have hR2 := hQ2.out rfl
                    have HR1 := Lib.hid hR1
                    have HR2 := Lib.hid hR2
                    clear hR1 hR2 hQ1 hQ2
                    refine wp_region_quiet_below (by kernel_rfl) (by kernel_rfl) ?_
                    repeat (go_big_quiet_step (first | (with_reducible exact quiet_call0 HR1.out) | (with_reducible exact quiet_call0 HR2.out)))
                    refine wpQuiet_nil ?_
                    intro W8 hk8
                    have hk8 := keeps_regrown hk8
                    go_wp2_with fail
                    go_meet
                    case rel => exact ⟨rfl, hk8⟩
                case rest =>
                  obtain ⟨V7, hV7⟩ : ∃ V, V = wc := ⟨_, rfl⟩
                  subst hV7
                  obtain ⟨rfl, hk7⟩ := hcut
                  have hkF := Lib.hid ((HK.out.trans HT6.out.keeps).trans hk7)
                  clear hk7 hk6 a0 a1 a2 a3 b0 b1 b2 b3 c1 c2 c3 c4 c5 c6 c7 c8 hQ1 hQ2
                  go_wp2_with fail
                  go_roundg (gk - 1)
                  case measure => have := HJ.out; omega
                  case rel => exact ⟨j + 1, by have := HJ.out; omega, by go_num, by omega, hkF.out⟩
      · go_wp2_with fail
        go_ret
        exact ⟨rfl, HK.out⟩
    · go_wp2_with fail
      go_ret
      exact ⟨rfl, HK.out⟩
end Go.Proofs.Ytnphhibfiklfjaa
