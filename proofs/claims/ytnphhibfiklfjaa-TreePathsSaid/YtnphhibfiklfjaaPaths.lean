/-
  espalierlaw4.TreePaths: its walk.
-/
import Derived.Test.YtnphhibfiklfjaaPathsJ
import Derived.Deep.RegionHeld3
import Derived.Deep.Cut
set_option linter.unusedVariables false
set_option linter.unusedSimpArgs false
namespace Go.Proofs.Ytnphhibfiklfjaa
open Go.RowKit
attribute [local go_sem] Oper.semAt_some

/-- Two trees in boxes, and the result's. -/
structure TB (w W : World) (x u : Nd) (cp up : Option Addr) (cl cc ul uc : Nat) (B : Nat) : Prop where
  box : W.heap[B]? = some (.cells (four x.k x.n x.t cp cl cc) T (0, 0))
  box' : W.heap[B + 1]? = some (.cells (four u.k u.n u.t up ul uc) T (0, 0))
  res : W.heap[B + 1 + 1]? = some (.cells #[.bool false] 4 (0, 0))
  keeps : Keeps (fun _ => False) w W
  tx : Tv W (fun b => b < B) x.k x.t x.c cp cl cc
  tu : Tv W (fun b => b < B) u.k u.t u.c up ul uc
theorem TB.next' {w W W1 : World} {x u : Nd} {cp up : Option Addr} {cl cc ul uc : Nat} {S : Nat → Prop} {B : Nat} (h : TB w W x u cp up cl cc ul uc B) (hk : Keeps S W W1) (hw : w.heap.size ≤ B) (hS : ∀ b, b ≤ B + 2 → ¬ S b) : TB w W1 x u cp up cl cc ul uc B :=
  ⟨(hk.block _ (heap_lt h.box) (hS _ (by omega))).trans h.box, (hk.block _ (heap_lt h.box') (hS _ (by omega))).trans h.box', (hk.block _ (heap_lt h.res) (hS _ (by omega))).trans h.res, h.keeps.trans' hk (fun b hb hl => hS b (by omega) hb),
    h.tx.keeps hk (fun b hb => hS b (by omega)), h.tu.keeps hk (fun b hb => hS b (by omega))⟩
theorem TB.next {w W W1 : World} {x u : Nd} {cp up : Option Addr} {cl cc ul uc : Nat} {B : Nat} (h : TB w W x u cp up cl cc ul uc B) (hk : Keeps (fun _ => False) W W1) : TB w W1 x u cp up cl cc ul uc B :=
  ⟨hk.heap h.box, hk.heap h.box', hk.heap h.res, h.keeps.trans hk, h.tx.next hk, h.tu.next hk⟩
theorem TB.start {w : World} {x u : Nd} {cp up : Option Addr} {cl cc ul uc : Nat} {A A' : Nat → Prop} (h : Tv w A x.k x.t x.c cp cl cc) (h' : Tv w A' u.k u.t u.c up ul uc) :
    TB w (((w.alloc (.cells (four x.k x.n x.t cp cl cc) T)).alloc (.cells (four u.k u.n u.t up ul uc) T)).alloc (.cells #[.bool false] 4)) x u cp up cl cc ul uc w.heap.size := by
  have k1 : Keeps (fun _ => False) w (w.alloc (.cells (four x.k x.n x.t cp cl cc) T)) := (Keeps.refl _ w).alloc _
  have k2 : Keeps (fun _ => False) (w.alloc (.cells (four x.k x.n x.t cp cl cc) T)) ((w.alloc (.cells (four x.k x.n x.t cp cl cc) T)).alloc (.cells (four u.k u.n u.t up ul uc) T)) := (Keeps.refl _ _).alloc _
  have k3 : Keeps (fun _ => False) ((w.alloc (.cells (four x.k x.n x.t cp cl cc) T)).alloc (.cells (four u.k u.n u.t up ul uc) T)) (((w.alloc (.cells (four x.k x.n x.t cp cl cc) T)).alloc (.cells (four u.k u.n u.t up ul uc) T)).alloc (.cells #[.bool false] 4)) := (Keeps.refl _ _).alloc _
  have hk := (k1.trans k2).trans k3
  refine ⟨(k2.trans k3).heap (heap_alloc_new _ _), ?_, ?_, hk, h.top.next hk, h'.top.next hk⟩
  · have := k3.heap (heap_alloc_new (w.alloc (.cells (four x.k x.n x.t cp cl cc) T)) (.cells (four u.k u.n u.t up ul uc) T))
    simpa using this
  · have := heap_alloc_new ((w.alloc (.cells (four x.k x.n x.t cp cl cc) T)).alloc (.cells (four u.k u.n u.t up ul uc) T)) (.cells #[.bool false] 4)
    simpa using this
theorem TB.cells {w W : World} {x u : Nd} {cp up : Option Addr} {cl cc ul uc : Nat} {B : Nat} (h : TB w W x u cp up cl cc ul uc B) :
    (W.cell? ⟨B, 0, none⟩ = some (.string x.k) ∧ W.cell? ⟨B, 1, none⟩ = some (.int .i64 x.n) ∧ W.cell? ⟨B, 2, none⟩ = some (.string x.t) ∧ W.cell? ⟨B, 3, none⟩ = some (.slice cp cl cc)) ∧
    (W.cell? ⟨B + 1, 0, none⟩ = some (.string u.k) ∧ W.cell? ⟨B + 1, 1, none⟩ = some (.int .i64 u.n) ∧ W.cell? ⟨B + 1, 2, none⟩ = some (.string u.t) ∧ W.cell? ⟨B + 1, 3, none⟩ = some (.slice up ul uc)) ∧
    W.cell? ⟨B + 1 + 1, 0, none⟩ = some (.bool false) ∧ W.frozen? ⟨B + 1 + 1, 0, none⟩ = false := by
  obtain ⟨r0, r1, r2, r3, _⟩ := box4 h.box
  obtain ⟨s0, s1, s2, s3, _⟩ := box4 h.box'
  exact ⟨⟨r0, r1, r2, r3⟩, ⟨s0, s1, s2, s3⟩, by simp [World.cell?, h.res], by simp [World.frozen?, h.res]⟩

theorem Try.rowInfo : (Try.prog.info? 32).map (fun i => (i.zero, i.size, i.bytes)) = some (some (.slice none 0 0), 1, 24) := by kernel_rfl
theorem sorted_at {α : Type} {R : α → α → Prop} {l : List α} (h : l.Pairwise R) {i j : Nat} (hij : i < j) {a b : α} (ha : l[i]? = some a) (hb : l[j]? = some b) : R a b := by
  obtain ⟨h1, rfl⟩ := List.getElem?_eq_some_iff.1 ha
  obtain ⟨h2, rfl⟩ := List.getElem?_eq_some_iff.1 hb
  exact List.pairwise_iff_getElem.1 h i j h1 h2 hij
theorem Row.le {w : World} {v : Value} {xs : List Int} (h : Row w v xs) : xs.length ≤ 9223372036854775807 := by
  rcases h.form with ⟨_, rfl⟩ | ⟨g, cap, cur, _, _, _, h1, h2, _⟩
  · simp
  · unfold maxLen at h2; omega

set_option maxRecDepth 100000 in
set_option maxHeartbeats 6400000 in
theorem treePaths_small (x u : Nd) (pick : Int) (cp up : Option Addr) (cl cc ul uc : Nat) (A A' : Nat → Prop) (w : World) (h : Tv w A x.k x.t x.c cp cl cc) (h' : Tv w A' u.k u.t u.c up ul uc) (hp : (Lit.int .i64 pick).wf = true) (hs : x.small) (hs' : u.small) :
    Calls Try.prog 3 #[tv x.k x.n x.t cp cl cc, tv u.k u.n u.t up ul uc, .int .i64 pick] w fun e w' => e = .returned (.bool true) ∧ Keeps (fun _ => False) w w' := by
  obtain ⟨xn, hxn⟩ : ∃ xn : Nat, xn = x.nodes := ⟨_, rfl⟩
  obtain ⟨xd, hxd⟩ : ∃ xd : Int, xd = (x.depth : Int) := ⟨_, rfl⟩
  obtain ⟨xb, hxb⟩ : ∃ xb : Int, xb = (x.bytes : Int) := ⟨_, rfl⟩
  obtain ⟨un, hun⟩ : ∃ xn : Int, xn = (u.nodes : Int) := ⟨_, rfl⟩
  obtain ⟨ud, hud⟩ : ∃ xd : Int, xd = (u.depth : Int) := ⟨_, rfl⟩
  obtain ⟨ub, hub⟩ : ∃ xb : Int, xb = (u.bytes : Int) := ⟨_, rfl⟩
  have hz : ∀ W, TB w W x u cp up cl cc ul uc w.heap.size → Calls Try.prog 9 #[tv x.k x.n x.t cp cl cc] W fun e w' => e = .returned (.tuple #[.int .i64 (xn : Int), .int .i64 xd, .int .i64 xb]) ∧ Keeps (fun _ => False) W w' := fun W hW => by
    have := Size_any x.k x.n x.t x.c cp cl cc _ W hW.tx
    rw [show sizeR x.k x.t x.c = ((xn : Int), xd, xb) by rw [sizeR_eq, if_pos hs, hxn, hxd, hxb]] at this
    exact this
  have hzu : ∀ W, TB w W x u cp up cl cc ul uc w.heap.size → Calls Try.prog 9 #[tv u.k u.n u.t up ul uc] W fun e w' => e = .returned (.tuple #[.int .i64 un, .int .i64 ud, .int .i64 ub]) ∧ Keeps (fun _ => False) W w' := fun W hW => by
    have := Size_any u.k u.n u.t u.c up ul uc _ W hW.tu
    rw [show sizeR u.k u.t u.c = (un, ud, ub) by rw [sizeR_eq, if_pos hs', hun, hud, hub]] at this
    exact this
  have hn1 : 1 ≤ xn := by rw [hxn]; simp only [Nd.nodes]; omega
  have hn2 : xn ≤ 1024 := by rw [hxn]; exact hs.1
  have hu1 : 0 ≤ un := by omega
  have hu2 : un ≤ 1024 := by have := hs'.1; omega
  have b1 : ¬ (1024 : Int) < (xn : Int) := by omega
  have b2 : ¬ (1024 : Int) < un := by omega
  have hG := TB.start (x := x) (u := u) h h'
  have HZ := Lib.hid hz
  have HZU := Lib.hid hzu
  have HXN := Lib.hid hxn
  have HS := Lib.hid hs
  have HS' := Lib.hid hs'
  have HP := Lib.hid hp
  clear hz hzu hs hs' h h' hxn hxd hxb hun hud hub hp
  refine calls_marks Try.func3 rfl ?_
  simp only [Try.ntmps3, List.size_toArray, List.length_cons, List.length_nil, Nat.reduceAdd, Nat.reduceSub, Array.replicate_succ, Array.replicate_zero, List.push_toArray, List.append_toArray, List.nil_append, List.cons_append]
  go_wp2_with fail
  refine (begun_any _).mono ?_
  rintro e W1 ⟨rfl, hk⟩
  have hG := hG.next hk
  clear hk
  obtain ⟨⟨e0', e1, e2, e3⟩, _⟩ := hG.cells
  go_wp2_with fail
  refine (HZ.out _ hG).mono ?_
  rintro e W2 ⟨rfl, hk⟩
  have hG := hG.next hk
  clear hk e0' e1 e2 e3
  obtain ⟨Nb, hNb⟩ : ∃ Nb, Nb = W2.heap.size := ⟨_, rfl⟩
  obtain ⟨W3, hW3⟩ : ∃ W3, W3 = W2.alloc (.cells #[.int .i64 (xn : Int)] 3) := ⟨_, rfl⟩
  have hN : W3.heap[Nb]? = some (.cells #[.int .i64 (xn : Int)] 3 (0, 0)) := by rw [hW3, hNb]; exact heap_alloc_new _ _
  have hNB : w.heap.size + 1 + 1 < Nb := by rw [hNb]; exact heap_lt hG.res
  have hG := hG.next (show Keeps (fun _ => False) W2 W3 by rw [hW3]; exact (Keeps.refl _ W2).alloc _)
  obtain ⟨_, ⟨e0', e1, e2, e3⟩, _⟩ := hG.cells
  have HW3 := Lib.hid hW3
  have HNb := Lib.hid hNb
  rw [hW3] at e0' e1 e2 e3
  clear hW3 hNb
  go_wp2_with fail
  rw [← HW3.out, ← HNb.out]
  clear HW3 HNb
  refine (HZU.out _ hG).mono ?_
  rintro e W4 ⟨rfl, hk⟩
  have hG := hG.next hk
  have hN := hk.heap hN
  clear hk e0' e1 e2 e3
  have n0 : W4.cell? ⟨Nb, 0, none⟩ = some (.int .i64 (xn : Int)) := by simp [World.cell?, hN]
  obtain ⟨W5, hW5⟩ : ∃ W5, W5 = W4.alloc (.cells #[.slice none 0 0] 31) := ⟨_, rfl⟩
  obtain ⟨Pb, hPb⟩ : ∃ Pb, Pb = W4.heap.size := ⟨_, rfl⟩
  have hP : W5.heap[Pb]? = some (.cells #[.slice none 0 0] 31 (0, 0)) := by rw [hW5, hPb]; exact heap_alloc_new _ _
  have hk5 : Keeps (fun _ => False) W4 W5 := by rw [hW5]; exact (Keeps.refl _ W4).alloc _
  have hPN : Nb < Pb := by rw [hPb]; exact heap_lt hN
  have hG := hG.next hk5
  have hN := hk5.heap hN
  obtain ⟨⟨e0', e1, e2, e3⟩, _⟩ := hG.cells
  have HW5 := Lib.hid hW5
  have HPb := Lib.hid hPb
  rw [hW5] at e0' e1 e2 e3
  clear hW5 hPb hk5
  go_wp2_with fail
  rw [← HW5.out, ← HPb.out]
  clear HW5 HPb e0' e1 e2 e3 n0
  refine (Each_any x cp cl cc _ W5 hG.tx).mono ?_
  rintro e W6 ⟨gf, lb, It, rfl, heg, hIt, hk, hit⟩
  have hG := hG.next hk
  have hN := hk.heap hN
  have hP := hk.heap hP
  have hItl : ∀ b, It b → b < W6.heap.size := fun b hb => (hIt b hb).2
  have hit6 := hk.size
  have hPbs : Pb < W5.heap.size := Nat.lt_of_lt_of_le (heap_lt ‹W5.heap[Pb]? = _›) (Nat.le_refl _)
  have HE := Lib.hid heg
  have HI := Lib.hid hit
  clear heg hit hk
  go_wp2_with fail
  have hPI : ¬ It Pb := fun hb => by have := (hIt _ hb).1; omega
  have hP6 := heap_lt hP
  have hEL : eachL x = pre [] x := by rw [eachL, if_pos HS.out]
  have hNI : ¬ It Nb := fun hb => by have := (hIt _ hb).1; omega
  refine (wpIn_wide (n := 1 + 2)).1 (range_law 1 (gf := gf) (lb := lb) (by rfl) HE.out HI.out ((Keeps.refl _ W6)) hItl (fun j vs Y W h => by obtain ⟨p, x, pv, cp, cl, cc, bs, _, rfl, _⟩ := h; rfl)
    (PJ It W6 Pb (eachL x)) (fun _ _ _ => False) (PJ.stab hP6 hPI) (fun _ _ _ _ h _ => h) (fun b => b < W6.heap.size ∧ ¬ It b) (fun b hb => hb)
    ⟨none, 0, 0, [], ⟨fun b h1 h2 => ⟨h1, h2⟩, Keeps.refl _ _, hP, World.ownsRow_nil _ _ _ _, fun _ h => by simp [Value.ownBlock] at h, fun i v e h => by simp at h⟩⟩ ?round ?done ?stop)
  case stop => exact fun _ _ _ h => h.elim
  case round =>
    have hG6 := Lib.hid hG
    have hN6 := Lib.hid hN
    clear hN hP HE HI hG
    rintro j B2 Y vs W hj hBl hJ ⟨p, y, pv, cp', cl', cc', bs, hL, rfl, hrow, hown, hsz, hYe⟩ hY hBD hlt
    rw [hEL] at hL
    have hmem := List.mem_of_getElem? hL
    have hsub := pre_sub x _ hmem
    have hys := sub_small hsub HS.out
    obtain ⟨pp, pc, rfl, hints⟩ := hrow.ints hrow.le
    obtain ⟨vp, vl, vc, vs, hJc⟩ := hJ
    obtain rfl : j = vl := hJc.len.symm
    gi_wp2
    obtain ⟨yb, hyb⟩ : ∃ yb, yb = W.heap.size := ⟨_, rfl⟩
    obtain ⟨W7, hW7⟩ : ∃ W7, W7 = W.alloc (.cells (four y.k y.n y.t cp' cl' cc') T) := ⟨_, rfl⟩
    have hka : Keeps (fun _ => False) W W7 := by rw [hW7]; exact (Keeps.refl _ W).alloc _
    have hby : W7.heap[yb]? = some (.cells (four y.k y.n y.t cp' cl' cc') T (0, 0)) := by rw [hW7, hyb]; exact heap_alloc_new _ _
    rw [← hW7, ← hyb]
    refine ⟨hka.mono fun _ h _ => h.elim, fun W₂ hk2 => ?_⟩
    have hW2 : Keeps (fun b => b = W6.heap.size + 1) W W₂ := (hka.mono (S' := fun b => b = W6.heap.size + 1) fun _ h _ => h.elim).trans' hk2 (fun b hb _ => hb)
    have hs2 := hW2.size
    have hwN : w.heap.size + 2 < Nb ∧ Nb < Pb ∧ Pb < W5.heap.size ∧ W5.heap.size ≤ W6.heap.size := ⟨by omega, hPN, hPbs, by have := hit6; omega⟩
    have hlow : ∀ b, b ≤ Nb → ¬ (It b ∨ b = Pb) := fun b hb hh => by
      rcases hh with hh | hh
      · have := (hIt _ hh).1; omega
      · omega
    have hG := ((hG6.out.next' hJc.keeps (Nat.le_refl _) (fun b hb => hlow b (by omega))).next' hW2 (Nat.le_refl _) (fun b hb => by omega))
    have hN : W₂.heap[Nb]? = some (.cells #[.int .i64 (xn : Int)] 3 (0, 0)) := (hW2.block _ (by omega) (by omega)).trans ((hJc.keeps.block _ (heap_lt hN6.out) (hlow Nb (Nat.le_refl _))).trans hN6.out)
    have hby : W₂.heap[yb]? = some (.cells (four y.k y.n y.t cp' cl' cc') T (0, 0)) := (hk2.block _ (heap_lt hby) (by omega)).trans hby
    have hJ2 := hJc.next hP6 hPI hW2 (fun b hb hbb => (hBD b hbb).2 hb)
    have hYl : ∀ b, (Value.slice pp p.length pc).ownBlock = some b ∨ b ∈ bs → b < W.heap.size ∧ b ≠ W6.heap.size + 1 ∧ W6.heap.size ≤ b := fun b hb => by
      have := hY b (by rw [hYe]; exact hb)
      omega
    have hi2 := hints.keeps hW2 (fun b hb e => (hYl b (.inl hb)).2.1 e)
    have ht2 := (hown.keeps hW2 (fun b hb => ⟨(hYl b (.inr hb)).1, (hYl b (.inr hb)).2.1⟩)).tv hsz
    have hz := At_any x p cp cl cc _ _ pp p.length pc W₂ hG.tx hi2
    rw [show atF x p = (y, 0) by rw [atF, if_pos HS.out, hsub]; rfl] at hz
    have HYE := Lib.hid hYe
    have HYL := Lib.hid hYl
    have HB := Lib.hid hBl
    have HBD := Lib.hid hBD
    have HY := Lib.hid hY
    have HJ0 := Lib.hid hJc
    have HL := Lib.hid hL
    have HSUB := Lib.hid hsub
    have HYS := Lib.hid hys
    have HR := Lib.hid hrow
    have HK1 := Lib.hid hka
    have HK2 := Lib.hid hk2
    have HIT := Lib.hid hIt
    obtain ⟨⟨f0, f1, f2, f3⟩, _⟩ := hG.cells
    have HPI := Lib.hid hPI
    have HYB := Lib.hid hyb
    clear hYe hYl hBl hBD hY hJc hL hsub hys hrow hka hk2 hW7 hW2 hown hints hlow hIt hmem hPI hNI hItl hyb
    have HEL := Lib.hid hEL
    clear hEL
    gi_wp2_with fail
    refine ⟨trivial, (CallsIn.inRound _ (callsIn_wide.2 hz)).mono ?_⟩
    clear hz f0 f1 f2 f3
    rintro e W8 hr
    obtain ⟨cp8, cl8, cc8, A8, rfl, ht8, hk8⟩ := TreeRes.out hr
    clear hr
    obtain ⟨zb, hzb⟩ : ∃ zb, zb = W8.heap.size := ⟨_, rfl⟩
    obtain ⟨W9, hW9⟩ : ∃ W9, W9 = W8.alloc (.cells (four y.k y.n y.t cp8 cl8 cc8) T) := ⟨_, rfl⟩
    have hbz : W9.heap[zb]? = some (.cells (four y.k y.n y.t cp8 cl8 cc8) T (0, 0)) := by rw [hW9, hzb]; exact heap_alloc_new _ _
    have hk9 : Keeps (fun _ => False) W8 W9 := by rw [hW9]; exact (Keeps.refl _ W8).alloc _
    have hk := hk8.trans hk9
    have ht8 := ht8.next hk9
    have ht2 := ht2.next hk
    have hby := hk.heap hby
    obtain ⟨f0, f1, f2, f3, _⟩ := box4 hby
    obtain ⟨g0, g1, g2, g3, _⟩ := box4 hbz
    have hz := Same_any y.k y.k y.n y.n y.t y.t y.c y.c cp' cp8 cl' cc' cl8 cc8 _ _ W9 ht2 ht8
    rw [eqB_self, big_small, show decide y.small = true by simp [HYS.out]] at hz
    have hJ2 := hJ2.next hP6 HPI.out hk (fun b h => h.elim)
    have hi2 := hi2.keeps hk (fun b _ h => h)
    have HK := Lib.hid hk
    have HW9 := Lib.hid hW9
    have HZB := Lib.hid hzb
    rw [hW9] at f0 f1 f2 f3 g0 g1 g2 g3
    rw [hzb] at g0 g1 g2 g3
    clear hk hk8 hk9 hW9 hzb hbz hby
    gi_wp2_with fail
    rw [← HW9.out]
    refine ⟨trivial, (CallsIn.inRound _ (callsIn_wide.2 hz)).mono ?_⟩
    clear hz f0 f1 f2 f3 g0 g1 g2 g3
    rintro e W10 ⟨rfl, hk⟩
    have hJ2 := hJ2.next hP6 HPI.out hk (fun b h => h.elim)
    have hi2 := hi2.keeps hk (fun b _ h => h)
    have HK10 := Lib.hid (HK.out.trans hk)
    clear hk HW9 HZB HK ht8 ht2
    have p0 : W10.cell? ⟨Pb, 0, none⟩ = some (.slice vp j vc) := by simp [World.cell?, hJ2.box]
    by_cases hj0 : j = 0
    · subst hj0
      have HKL := HK10
      have HLE : Hid (W6.heap.size ≤ W10.heap.size) := by have := HK10.out.size; show W6.heap.size ≤ W10.heap.size; omega
      have HJ2 := Lib.hid hJ2
      clear hJ2
      -- the append
      obtain ⟨i0, hi0, hz0, hz1, hz2⟩ := info_parts Try.rowInfo
      have hrow1 := HJ2.out.row
      have hbase : W6.heap.size ≤ W10.heap.size := HLE.out
      have hPs := heap_lt HJ2.out.box
      have hvP : (Value.slice vp 0 vc).ownBlock ≠ some Pb := fun e => by have := (hrow1.lt _ e).1; omega
      have p0 : W10.cell? ⟨Pb, 0, none⟩ = some (.slice vp 0 vc) := by simp [World.cell?, HJ2.out.box]
      have p1 : W10.frozen? ⟨Pb, 0, none⟩ = false := by simp [World.frozen?, HJ2.out.box]
      gi_wp2_with fail
      refine ⟨trivial, ?_⟩
      gi_wp2_with (gi_at_builtin; refine wpListIn_append_lies _ rfl _ _ _ rfl W6.heap.size 32 i0 _ 1 24 Try.underlying31 hi0 hz0 hz1 hz2 rfl (by decide) (.slice vp 0 vc) 0 vs rfl (hrow1.alloc _) ⟨W10.heap.size, 0, none⟩ 1 1 [.slice pp p.length pc] rfl rfl (World.news_of_block (cs := #[.slice pp p.length pc]) (t := 32) (fr := (0, 0)) (heap_alloc_new W10 _)) (by simp [Value.oneCell']) (by omega) (by unfold maxLen; omega) (by omega) (by simp; omega) (W10.heap.size + 1) (by simp) ?_; intro gg cap2 w3 hown3 hgrow3 hat3 hlt3; have hl3 : w3.cell? ⟨Pb, 0, none⟩ = some (.slice vp 0 vc) := (hgrow3.cell_far ⟨Pb, 0, none⟩ (by simp; omega) (Ne.symm hvP)).trans ((World.cell?_alloc_past _ _ _ hPs).trans p0); have hf3 : w3.frozen? ⟨Pb, 0, none⟩ = false := (hgrow3.frozen_far ⟨Pb, 0, none⟩ (by simp; omega) (Ne.symm hvP)).trans ((World.frozen?_alloc_past _ _ _ hPs).trans p1))
      have hJ0 : PJc It W6 Pb (pre [] x) 0 B2 W vp 0 vc vs := HEL.out ▸ HJ0.out
      exact hJ0.push (Y := fun b => (Value.slice pp p.length pc).ownBlock = some b ∨ b ∈ bs) (l := W6.heap.size + 1) hP6 HPI.out (by omega) (by omega) (fun b hb => ⟨HB.out b hb, (HBD.out b hb).2⟩)
        (fun b hb => by have := HY.out b (by rw [HYE.out]; exact hb); exact ⟨this.1, by omega, by omega, this.2.2⟩) HK1.out HK2.out (HKL.out.alloc _) HL.out HR.out (fun b hb => .inl hb) hgrow3 hown3 (by simpa using hat3)
    · have hj1 : 0 < j := by omega
      obtain ⟨g, cap, hv, hg6, hgl⟩ := hJ2.row.form hj1
      simp only [Value.slice.injEq] at hv
      obtain ⟨rfl, _, rfl⟩ := hv
      have hvs : vs.length = j := by have := hJ2.row.1; omega
      obtain ⟨v0, hv0⟩ : ∃ v0, vs[j - 1]? = some v0 := ⟨_, List.getElem?_eq_getElem (by omega)⟩
      obtain ⟨e0', he0⟩ : ∃ e0, (eachL x)[j - 1]? = some e0 := ⟨_, List.getElem?_eq_getElem (by omega)⟩
      obtain ⟨hr0, _⟩ := hJ2.rows (j - 1) v0 e0' hv0 he0
      obtain ⟨pp0, pc0, rfl, hi0⟩ := hr0.ints hr0.le
      have hz := ahead_any e0'.1 p pp0 pp e0'.1.length p.length pc0 pc _ _ W10 hi0 hi2
      have hord : aheadB e0'.1 p = true := by
        rw [HEL.out] at he0
        exact sorted_at (pre_sorted [] x) (show j - 1 < j by omega) he0 HL.out
      rw [hord] at hz
      have hi1 : (0 : Int) < (j : Int) := by omega
      have c0 := hJ2.row.cellAt (j - 1) (by omega)
      rw [hv0] at c0
      have hjb : (j : Int) ≤ 1024 := by
        rw [HEL.out, pre_len] at hj
        have := HS.out.1
        simp only [Nd.nodes] at this
        omega
      have hi2' : (1 : Int) ≤ (j : Int) := by omega
      have hw1 : ((j : Int) - 1).toNat = j - 1 := by omega
      have HJ2 := Lib.hid hJ2
      have HV0 := Lib.hid hv0
      have HVS := Lib.hid hvs
      have HE0 := Lib.hid he0
      clear hJ2 hv0 hvs he0 hord hi0 hr0
      gi_wp2_with fail
      refine ⟨trivial, (CallsIn.inRound _ (callsIn_wide.2 hz)).mono ?_⟩
      clear hz
      rintro e W11 ⟨rfl, hk⟩
      have HJ3 := Lib.hid (HJ2.out.next hP6 HPI.out hk (fun b h => h.elim))
      have HKL := Lib.hid (HK10.out.trans hk)
      have HLE : Hid (W6.heap.size ≤ W11.heap.size) := by have := (HK10.out.trans hk).size; show W6.heap.size ≤ W11.heap.size; omega
      clear hk HJ2 p0 c0 hw1
      -- the append
      obtain ⟨i0, hi0, hz0, hz1, hz2⟩ := info_parts Try.rowInfo
      have hrow1 := HJ3.out.row
      have hbase : W6.heap.size ≤ W11.heap.size := HLE.out
      have hPs := heap_lt HJ3.out.box
      have hvP : (Value.slice (some ⟨g, 0, none⟩) j vc).ownBlock ≠ some Pb := fun e => by have := (hrow1.lt _ e).1; omega
      have p0 : W11.cell? ⟨Pb, 0, none⟩ = some (.slice (some ⟨g, 0, none⟩) j vc) := by simp [World.cell?, HJ3.out.box]
      have p1 : W11.frozen? ⟨Pb, 0, none⟩ = false := by simp [World.frozen?, HJ3.out.box]
      gi_wp2_with (gi_at_builtin; refine wpListIn_append_lies _ rfl _ _ _ rfl W6.heap.size 32 i0 _ 1 24 Try.underlying31 hi0 hz0 hz1 hz2 rfl (by decide) (.slice (some ⟨g, 0, none⟩) j vc) j vs rfl (hrow1.alloc _) ⟨W11.heap.size, 0, none⟩ 1 1 [.slice pp p.length pc] rfl rfl (World.news_of_block (cs := #[.slice pp p.length pc]) (t := 32) (fr := (0, 0)) (heap_alloc_new W11 _)) (by simp [Value.oneCell']) (by omega) (by unfold maxLen; omega) (by omega) (by simp; omega) (W11.heap.size + 1) (by simp) ?_; intro gg cap2 w3 hown3 hgrow3 hat3 hlt3; have hl3 : w3.cell? ⟨Pb, 0, none⟩ = some (.slice (some ⟨g, 0, none⟩) j vc) := (hgrow3.cell_far ⟨Pb, 0, none⟩ (by simp; omega) (Ne.symm hvP)).trans ((World.cell?_alloc_past _ _ _ hPs).trans p0); have hf3 : w3.frozen? ⟨Pb, 0, none⟩ = false := (hgrow3.frozen_far ⟨Pb, 0, none⟩ (by simp; omega) (Ne.symm hvP)).trans ((World.frozen?_alloc_past _ _ _ hPs).trans p1))
      have hJ0 : PJc It W6 Pb (pre [] x) j B2 W (some ⟨g, 0, none⟩) j vc vs := HEL.out ▸ HJ0.out
      exact hJ0.push (Y := fun b => (Value.slice pp p.length pc).ownBlock = some b ∨ b ∈ bs) (l := W6.heap.size + 1) hP6 HPI.out (by omega) (by omega) (fun b hb => ⟨HB.out b hb, (HBD.out b hb).2⟩)
        (fun b hb => by have := HY.out b (by rw [HYE.out]; exact hb); exact ⟨this.1, by omega, by omega, this.2.2⟩) HK1.out HK2.out (HKL.out.alloc _) HL.out HR.out (fun b hb => .inl hb) hgrow3 hown3 (by simpa using hat3)
  case done =>
    rintro B' W ⟨vp, vl, vc, vs, hJc⟩ hD hkI hBD
    have hNx : (eachL x).length = xn := by rw [hEL, pre_len, HXN.out]; rfl
    rw [hNx] at hJc
    obtain rfl : xn = vl := hJc.len.symm
    have hkP : Keeps (fun b => b = Pb) W6 W := Keeps.both hJc.keeps hkI
    have hG := hG.next' hkP (Nat.le_refl _) (fun b hb => by omega)
    have hN := (hkP.block _ (heap_lt hN) (by omega)).trans hN
    have hDl := heap_lt hD
    have hw6 : w.heap.size + 1 + 1 < W6.heap.size := by have := heap_lt ‹W6.heap[Nb]? = _›; omega
    have hne : W6.heap.size ≠ w.heap.size + 1 + 1 := by omega
    obtain ⟨hr1, hr2⟩ : -(xn : Int) < pick.tmod (xn : Int) ∧ pick.tmod (xn : Int) < (xn : Int) := by
      have h1 := Int.natAbs_tmod pick (xn : Int)
      have h2 := Nat.mod_lt pick.natAbs (show 0 < xn by omega)
      have h3 : (pick.tmod (xn : Int)).natAbs < xn := by rw [h1]; simpa using h2
      omega
    obtain ⟨i, hi⟩ : ∃ i : Nat, i = (pick.tmod (xn : Int)).natAbs := ⟨_, rfl⟩
    have hix : i < xn := by omega
    have hir : pick.tmod (xn : Int) = (i : Int) ∨ (pick.tmod (xn : Int) = -(i : Int) ∧ 0 < i) := by omega
    have hvs : vs.length = xn := by have := hJc.row.1; omega
    obtain ⟨⟨p, y⟩, he⟩ : ∃ e, (pre [] x)[i]? = some e := ⟨_, List.getElem?_eq_getElem (by rw [← hEL]; omega)⟩
    have hsub := pre_sub x _ (List.mem_of_getElem? he)
    have hys := sub_small hsub HS.out
    obtain ⟨v0, hv0⟩ : ∃ v0, vs[i]? = some v0 := ⟨_, List.getElem?_eq_getElem (by omega)⟩
    rw [← hEL] at he
    obtain ⟨hr0, _⟩ := hJc.rows i v0 _ hv0 he
    obtain ⟨pp, pc, rfl, hints⟩ := hr0.ints hr0.le
    obtain ⟨g, cap, hv, hg6, hgl⟩ := hJc.row.form (show 0 < xn by omega)
    simp only [Value.slice.injEq] at hv
    obtain ⟨rfl, _, rfl⟩ := hv
    have c0 := hJc.row.cellAt i (by omega)
    rw [hv0] at c0
    have p0 : W.cell? ⟨Pb, 0, none⟩ = some (.slice (some ⟨g, 0, none⟩) xn vc) := by simp [World.cell?, hJc.box]
    have n0 : W.cell? ⟨Nb, 0, none⟩ = some (.int .i64 (xn : Int)) := by simp [World.cell?, hN]
    have hPl := heap_lt hJc.box
    have HXN := Lib.hid HXN
    have HG := Lib.hid hG
    have HV := Lib.hid hvs
    have HE := Lib.hid he
    have HI := Lib.hid hi
    have HSUB := Lib.hid hsub
    have HYS := Lib.hid hys
    have HINT := Lib.hid hints
    have hxn0 : ((xn : Int) == 0) = false := by simp; omega
    clear hvs he hi hsub hys hints hv0 hr0 hJc hNx hkI hBD hIt hItl hEL HE hit6 hPbs hPI hP6 hNI hP hN hkP HZ HZU
    have HF : Hid (∀ W', Keeps (fun _ => False) W W' → W'.cell? ⟨w.heap.size, 0, none⟩ = some (.string x.k) ∧ W'.cell? ⟨w.heap.size, 1, none⟩ = some (.int .i64 x.n) ∧ W'.cell? ⟨w.heap.size, 2, none⟩ = some (.string x.t) ∧ W'.cell? ⟨w.heap.size, 3, none⟩ = some (.slice cp cl cc) ∧
        W'.cell? ⟨w.heap.size + 1, 0, none⟩ = some (.string u.k) ∧ W'.cell? ⟨w.heap.size + 1, 1, none⟩ = some (.int .i64 u.n) ∧ W'.cell? ⟨w.heap.size + 1, 2, none⟩ = some (.string u.t) ∧ W'.cell? ⟨w.heap.size + 1, 3, none⟩ = some (.slice up ul uc) ∧
        W'.cell? ⟨Pb, 0, none⟩ = some (.slice (some ⟨g, 0, none⟩) xn vc) ∧ W'.cell? ⟨g, i, none⟩ = some (.slice pp p.length pc)) := Lib.hid fun W' hk => by
      obtain ⟨⟨a0, a1, a2, a3⟩, ⟨b0, b1, b2, b3⟩, _⟩ := (HG.out.next hk).cells
      exact ⟨a0, a1, a2, a3, b0, b1, b2, b3, (hk.cell (p := ⟨Pb, 0, none⟩) hPl (fun h => h)).trans p0, (hk.cell (p := ⟨g, i, none⟩) hgl (fun h => h)).trans c0⟩
    have HAT : Hid (∀ W', Keeps (fun _ => False) W W' → Calls Try.prog 11 #[tv x.k x.n x.t cp cl cc, .slice pp p.length pc] W' (TreeRes W' (y, 0))) := Lib.hid fun W' hk => by
      have := At_any x p cp cl cc _ _ pp p.length pc W' (HG.out.next hk).tx (HINT.out.keeps hk (fun _ _ h => h))
      rwa [atF, if_pos HS.out, HSUB.out] at this
    clear hG
    have hii : (i : Int) < (xn : Int) := by omega
    have hi0 : (0 : Int) ≤ (i : Int) := Int.natCast_nonneg _
    have hk : Keeps (fun _ => False) W W := Keeps.refl _ W
    go_upto_if 100 with fail
    go_cut [18] from 30 (fun s18 wx => s18 = .int .i64 (i : Int) ∧ W = wx)
    case first =>
      rcases hir with hr | ⟨hr, hpos⟩
      all_goals
        go_wp2_with fail
        go_meet
        case rel => exact ⟨rfl, rfl⟩
    case rest =>
      obtain ⟨rfl, rfl⟩ := hcut
      clear hir
      go_upto_region 24 with fail
      go_cut [19, 20] from 30 (TreeBox W y 0)
      case first =>
        have HS6 : Hid (∀ W', Keeps (fun _ => False) W W' → W'.cell? ⟨w.heap.size, 0, none⟩ = some (.string x.k) ∧ W'.cell? ⟨w.heap.size, 1, none⟩ = some (.int .i64 x.n) ∧ W'.cell? ⟨w.heap.size, 2, none⟩ = some (.string x.t) ∧ W'.cell? ⟨w.heap.size, 3, none⟩ = some (.slice cp cl cc) ∧ W'.cell? ⟨Pb, 0, none⟩ = some (.slice (some ⟨g, 0, none⟩) xn vc) ∧ W'.cell? ⟨g, i, none⟩ = some (.slice pp p.length pc)) := Lib.hid fun W' hk => by
          obtain ⟨f0, f1, f2, f3, f4, f5, f6, f7, f8, f9⟩ := HF.out _ hk
          exact ⟨f0, f1, f2, f3, f8, f9⟩
        clear HF
        go_region_held3 (fun W' => W'.cell? ⟨w.heap.size, 0, none⟩ = some (.string x.k) ∧ W'.cell? ⟨w.heap.size, 1, none⟩ = some (.int .i64 x.n) ∧ W'.cell? ⟨w.heap.size, 2, none⟩ = some (.string x.t) ∧ W'.cell? ⟨w.heap.size, 3, none⟩ = some (.slice cp cl cc) ∧ W'.cell? ⟨Pb, 0, none⟩ = some (.slice (some ⟨g, 0, none⟩) xn vc) ∧ W'.cell? ⟨g, i, none⟩ = some (.slice pp p.length pc)) (exact HS6.out _ (by repeat' (first | exact hk | refine Keeps.drew ?_ | refine Keeps.alloc ?_ _ | refine Keeps.setCell ?_ (fun hh => absurd (show W.heap.size < W.heap.size from hh) (by omega)) _))) ((go_simp; go_at_call 11; refine (HAT.out _ (by repeat' (first | exact hk | refine Keeps.drew ?_ | refine Keeps.alloc ?_ _ | refine Keeps.setCell ?_ (fun hh => absurd (show W.heap.size < W.heap.size from hh) (by omega)) _))).mono ?_; rintro e W1 hr; obtain ⟨cp1, cl1, cc1, A1, rfl, ht1, hA1, hk1⟩ := TreeRes.out2 hr; (try (have hzb := z0_cells (W := W) hk1; obtain ⟨z0, z1, z2, z3, y0, y1, y2, y3⟩ := box4 hzb)); have hk := Keeps.trans (w := W) (by repeat' (first | exact hk | refine Keeps.drew ?_ | refine Keeps.alloc ?_ _ | refine Keeps.setCell ?_ (fun hh => absurd (show W.heap.size < W.heap.size from hh) (by omega)) _)) hk1))
        all_goals
          go_wp2_with fail
          go_meet
          case rel => first | exact TreeBox.early hk1 ht1 hA1 | exact TreeBox.late (Keeps.trans (Keeps.drew (Keeps.refl _ _)) hk1) ht1
      case rest =>
        obtain ⟨V1, hV1⟩ : ∃ V, V = wc := ⟨_, rfl⟩
        subst hV1
        obtain ⟨zb1, cp1, cl1, cc1, A1, rfl, rfl, hz1, hb1, ht1, hk⟩ := hcut
        have hks := hk.size
        obtain ⟨q, code, hq, hqs⟩ : ∃ (q : Nd) (code : Int), putF x p u = (q, code) ∧ ((q = zeroNd ∧ code = 2) ∨ (q = put p x u ∧ q.small ∧ code = 0)) := by
          by_cases hps : (put p x u).small
          · exact ⟨put p x u, 0, by rw [putF, if_pos ⟨HS.out, HS'.out⟩, HSUB.out]; simp [hps], .inr ⟨rfl, hps, rfl⟩⟩
          · exact ⟨zeroNd, 2, by rw [putF, if_pos ⟨HS.out, HS'.out⟩, HSUB.out]; simp [hps], .inl ⟨rfl, rfl⟩⟩
        have HPUT : Hid (∀ W', Keeps (fun _ => False) W W' → Calls Try.prog 14 #[tv x.k x.n x.t cp cl cc, .slice pp p.length pc, tv u.k u.n u.t up ul uc] W' (TreeRes W' (q, code))) := Lib.hid fun W' hk => by
          have := Put_any x u p cp up cl cc ul uc _ _ _ pp p.length pc W' (HG.out.next hk).tx (HINT.out.keeps hk (fun _ _ h => h)) (HG.out.next hk).tu
          rwa [hq] at this
        have HQS := Lib.hid hqs
        have hb1k := Lib.hid hb1
        have ht1k := Lib.hid ht1
        clear hq hqs hb1 ht1 HAT
        go_upto_region 25 with fail
        go_cut [21, 22] from 30 (TreeBox V1 q code)
        case first =>
          have HS6 : Hid (∀ W', Keeps (fun _ => False) W W' → W'.cell? ⟨w.heap.size, 0, none⟩ = some (.string x.k) ∧ W'.cell? ⟨w.heap.size, 1, none⟩ = some (.int .i64 x.n) ∧ W'.cell? ⟨w.heap.size, 2, none⟩ = some (.string x.t) ∧ W'.cell? ⟨w.heap.size, 3, none⟩ = some (.slice cp cl cc) ∧ W'.cell? ⟨w.heap.size + 1, 0, none⟩ = some (.string u.k) ∧ W'.cell? ⟨w.heap.size + 1, 1, none⟩ = some (.int .i64 u.n) ∧ W'.cell? ⟨w.heap.size + 1, 2, none⟩ = some (.string u.t) ∧ W'.cell? ⟨w.heap.size + 1, 3, none⟩ = some (.slice up ul uc) ∧ W'.cell? ⟨Pb, 0, none⟩ = some (.slice (some ⟨g, 0, none⟩) xn vc) ∧ W'.cell? ⟨g, i, none⟩ = some (.slice pp p.length pc)) := Lib.hid fun W' hk => by
            obtain ⟨f0, f1, f2, f3, f4, f5, f6, f7, f8, f9⟩ := HF.out _ hk
            exact ⟨f0, f1, f2, f3, f4, f5, f6, f7, f8, f9⟩
          clear HF
          go_region_held3 (fun W' => W'.cell? ⟨w.heap.size, 0, none⟩ = some (.string x.k) ∧ W'.cell? ⟨w.heap.size, 1, none⟩ = some (.int .i64 x.n) ∧ W'.cell? ⟨w.heap.size, 2, none⟩ = some (.string x.t) ∧ W'.cell? ⟨w.heap.size, 3, none⟩ = some (.slice cp cl cc) ∧ W'.cell? ⟨w.heap.size + 1, 0, none⟩ = some (.string u.k) ∧ W'.cell? ⟨w.heap.size + 1, 1, none⟩ = some (.int .i64 u.n) ∧ W'.cell? ⟨w.heap.size + 1, 2, none⟩ = some (.string u.t) ∧ W'.cell? ⟨w.heap.size + 1, 3, none⟩ = some (.slice up ul uc) ∧ W'.cell? ⟨Pb, 0, none⟩ = some (.slice (some ⟨g, 0, none⟩) xn vc) ∧ W'.cell? ⟨g, i, none⟩ = some (.slice pp p.length pc)) (exact HS6.out _ (by repeat' (first | exact hk | refine Keeps.drew ?_ | refine Keeps.alloc ?_ _ | refine Keeps.setCell ?_ (fun hh => absurd (show V1.heap.size < W.heap.size from hh) (by omega)) _))) ((go_simp; go_at_call 14; refine (HPUT.out _ (by repeat' (first | exact hk | refine Keeps.drew ?_ | refine Keeps.alloc ?_ _ | refine Keeps.setCell ?_ (fun hh => absurd (show V1.heap.size < W.heap.size from hh) (by omega)) _))).mono ?_; rintro e W1 hr; obtain ⟨cp1, cl1, cc1, A1, rfl, ht1, hA1, hk1⟩ := TreeRes.out2 hr; (try (have hzb := z0_cells (W := V1) hk1; obtain ⟨z0, z1, z2, z3, y0, y1, y2, y3⟩ := box4 hzb)); have hk := Keeps.trans (w := W) (by repeat' (first | exact hk | refine Keeps.drew ?_ | refine Keeps.alloc ?_ _ | refine Keeps.setCell ?_ (fun hh => absurd (show V1.heap.size < W.heap.size from hh) (by omega)) _)) hk1))
          all_goals
            go_wp2_with fail
            go_meet
            case rel => first | exact TreeBox.early hk1 ht1 hA1 | exact TreeBox.late (Keeps.trans (Keeps.drew (Keeps.refl _ _)) hk1) ht1
        case rest =>
          obtain ⟨V2, hV2⟩ : ∃ V, V = wc := ⟨_, rfl⟩
          subst hV2
          obtain ⟨zb2, cp2, cl2, cc2, A2, rfl, rfl, hz2, hb2, ht2, hk2⟩ := hcut
          have HK := hk.trans hk2
          have hG2 := HG.out.next HK
          have hD2 := HK.heap hD
          have hb1 := hk2.heap hb1k.out
          have ht1 := ht1k.out.next hk2
          clear hk hks HPUT hb1k ht1k
          rcases HQS.out with ⟨rfl, rfl⟩ | ⟨hqp, hqsm, rfl⟩
          · obtain rfl : cl2 = 0 := ht2.len.symm
            have hz := Size_any e0 0 e0 .nil cp2 0 cc2 _ V2 ht2
            rw [show sizeR e0 e0 .nil = (1, 1, 0) by rw [sizeR_eq zeroNd]; rfl] at hz
            obtain ⟨z0, z1, z2, z3, _⟩ := box4 hb2
            clear HF
            go_wp2_with fail
            refine hz.mono ?_
            clear hz z0 z1 z2 z3
            rintro e V3 ⟨rfl, hk3⟩
            have hb3 := hk3.heap hb2
            have hG3 := hG2.next hk3
            have hD3 := hk3.heap hD2
            obtain ⟨z0, z1, z2, z3, _⟩ := box4 hb3
            obtain ⟨_, _, r0, r1⟩ := hG3.cells
            clear hk3 hb2 hb1 ht1 ht2 HK
            go_wp2_with fail
            have hres : ((V3.setCell ⟨w.heap.size + 1 + 1, 0, none⟩ (.bool true)).putObj W6.heap.size (.deferred none)).cell? ⟨w.heap.size + 1 + 1, 0, none⟩ = some (.bool true) := by
              simp only [World.cell?, World.putObj_heap_other (Ne.symm hne), heap_set hG3.res]; rfl
            refine ret_mark (v := .bool true) ((Below.heap_setCell _ _ _ _ hne).trans hD3) (by simp [results, Try.results3, go_sem, hres]) ⟨rfl, ?_⟩
            exact (hG3.keeps.trans' ((Keeps.refl (fun b => b = w.heap.size + 1 + 1) V3).setCell (p := ⟨w.heap.size + 1 + 1, 0, none⟩) (fun _ => rfl) _) (fun b hb hl => by omega)).trans' (Keeps.putObj _ _ _) (fun b hb hl => by omega)
          · have hks := HK.size
            have hPV := Nat.lt_of_lt_of_le hPl hks
            have HF2 : Hid (∀ W', Keeps (fun _ => False) V2 W' → W'.cell? ⟨zb2, 0, none⟩ = some (.string q.k) ∧ W'.cell? ⟨zb2, 1, none⟩ = some (.int .i64 q.n) ∧ W'.cell? ⟨zb2, 2, none⟩ = some (.string q.t) ∧ W'.cell? ⟨zb2, 3, none⟩ = some (.slice cp2 cl2 cc2) ∧ W'.cell? ⟨zb1, 0, none⟩ = some (.string y.k) ∧ W'.cell? ⟨zb1, 1, none⟩ = some (.int .i64 y.n) ∧ W'.cell? ⟨zb1, 2, none⟩ = some (.string y.t) ∧ W'.cell? ⟨zb1, 3, none⟩ = some (.slice cp1 cl1 cc1) ∧ W'.cell? ⟨Pb, 0, none⟩ = some (.slice (some ⟨g, 0, none⟩) xn vc) ∧ W'.cell? ⟨g, i, none⟩ = some (.slice pp p.length pc)) := Lib.hid fun W' hk => by
              obtain ⟨a0, a1, a2, a3, _⟩ := box4 (hk.heap hb2)
              obtain ⟨b0, b1, b2, b3, _⟩ := box4 (hk.heap hb1)
              obtain ⟨_, _, _, _, _, _, _, _, f8, f9⟩ := HF.out _ (HK.trans hk)
              exact ⟨a0, a1, a2, a3, b0, b1, b2, b3, f8, f9⟩
            have HAT : Hid (∀ W', Keeps (fun _ => False) V2 W' → Calls Try.prog 11 #[tv q.k q.n q.t cp2 cl2 cc2, .slice pp p.length pc] W' (TreeRes W' (u, 0))) := Lib.hid fun W' hk => by
              have := At_any q p cp2 cl2 cc2 _ _ pp p.length pc W' (ht2.next hk) (HINT.out.keeps (HK.trans hk) (fun _ _ h => h))
              rwa [atF, if_pos hqsm, hqp, sub_put p x u y HSUB.out, ← hqp] at this
            have HPUT : Hid (∀ W', Keeps (fun _ => False) V2 W' → Calls Try.prog 14 #[tv q.k q.n q.t cp2 cl2 cc2, .slice pp p.length pc, tv y.k y.n y.t cp1 cl1 cc1] W' (TreeRes W' (x, 0))) := Lib.hid fun W' hk => by
              have := Put_any q y p cp2 cp1 cl2 cc2 cl1 cc1 _ _ _ pp p.length pc W' (ht2.next hk) (HINT.out.keeps (HK.trans hk) (fun _ _ h => h)) (ht1.next hk)
              have hpp : putF q p y = (x, 0) := by
                rw [putF, if_pos ⟨hqsm, HYS.out⟩]
                have h1 : sub p q = some u := by rw [hqp]; exact sub_put p x u y HSUB.out
                have h2 : put p q y = x := by rw [hqp]; exact put_put p x u y HSUB.out
                rw [h1, h2]
                simp [HS.out]
              rwa [hpp] at this
            have HQP := Lib.hid hqp
            have HHK := Lib.hid HK
            have HG2 := Lib.hid hG2
            have hk : Keeps (fun _ => False) V2 V2 := Keeps.refl _ V2
            clear hqp HK hG2 HF ht1 ht2 hb1 hb2
            go_upto_region 29 with fail
            go_cut [26, 27] from 30 (TreeBox V2 u 0)
            case first =>
              have HS6 : Hid (∀ W', Keeps (fun _ => False) V2 W' → W'.cell? ⟨zb2, 0, none⟩ = some (.string q.k) ∧ W'.cell? ⟨zb2, 1, none⟩ = some (.int .i64 q.n) ∧ W'.cell? ⟨zb2, 2, none⟩ = some (.string q.t) ∧ W'.cell? ⟨zb2, 3, none⟩ = some (.slice cp2 cl2 cc2) ∧ W'.cell? ⟨Pb, 0, none⟩ = some (.slice (some ⟨g, 0, none⟩) xn vc) ∧ W'.cell? ⟨g, i, none⟩ = some (.slice pp p.length pc)) := Lib.hid fun W' hk => by
                obtain ⟨f0, f1, f2, f3, f4, f5, f6, f7, f8, f9⟩ := HF2.out _ hk
                exact ⟨f0, f1, f2, f3, f8, f9⟩
              clear HF2
              go_region_held3 (fun W' => W'.cell? ⟨zb2, 0, none⟩ = some (.string q.k) ∧ W'.cell? ⟨zb2, 1, none⟩ = some (.int .i64 q.n) ∧ W'.cell? ⟨zb2, 2, none⟩ = some (.string q.t) ∧ W'.cell? ⟨zb2, 3, none⟩ = some (.slice cp2 cl2 cc2) ∧ W'.cell? ⟨Pb, 0, none⟩ = some (.slice (some ⟨g, 0, none⟩) xn vc) ∧ W'.cell? ⟨g, i, none⟩ = some (.slice pp p.length pc)) (exact HS6.out _ (by repeat' (first | exact hk | refine Keeps.drew ?_ | refine Keeps.alloc ?_ _ | refine Keeps.setCell ?_ (fun hh => absurd (show V2.heap.size < V2.heap.size from hh) (by omega)) _))) ((go_simp; go_at_call 11; refine (HAT.out _ (by repeat' (first | exact hk | refine Keeps.drew ?_ | refine Keeps.alloc ?_ _ | refine Keeps.setCell ?_ (fun hh => absurd (show V2.heap.size < V2.heap.size from hh) (by omega)) _))).mono ?_; rintro e W1 hr; obtain ⟨cp1, cl1, cc1, A1, rfl, ht1, hA1, hk1⟩ := TreeRes.out2 hr; (try (have hzb := z0_cells (W := V2) hk1; obtain ⟨z0, z1, z2, z3, y0, y1, y2, y3⟩ := box4 hzb)); have hk := Keeps.trans (w := V2) (by repeat' (first | exact hk | refine Keeps.drew ?_ | refine Keeps.alloc ?_ _ | refine Keeps.setCell ?_ (fun hh => absurd (show V2.heap.size < V2.heap.size from hh) (by omega)) _)) hk1))
              all_goals
                go_wp2_with fail
                go_meet
                case rel => first | exact TreeBox.early hk1 ht1 hA1 | exact TreeBox.late (Keeps.trans (Keeps.drew (Keeps.refl _ _)) hk1) ht1
            case rest =>
              obtain ⟨V3, hV3⟩ : ∃ V, V = wc := ⟨_, rfl⟩
              subst hV3
              obtain ⟨zb3, cp3, cl3, cc3, A3, rfl, rfl, hz3, hb3, ht3, hk⟩ := hcut
              have hks3 := hk.size
              have hb3k := Lib.hid hb3
              have ht3k := Lib.hid ht3
              clear hb3 ht3 HAT
              go_upto_region 30 with fail
              go_cut [28, 29] from 30 (TreeBox V3 x 0)
              case first =>
                have HS6 : Hid (∀ W', Keeps (fun _ => False) V2 W' → W'.cell? ⟨zb2, 0, none⟩ = some (.string q.k) ∧ W'.cell? ⟨zb2, 1, none⟩ = some (.int .i64 q.n) ∧ W'.cell? ⟨zb2, 2, none⟩ = some (.string q.t) ∧ W'.cell? ⟨zb2, 3, none⟩ = some (.slice cp2 cl2 cc2) ∧ W'.cell? ⟨zb1, 0, none⟩ = some (.string y.k) ∧ W'.cell? ⟨zb1, 1, none⟩ = some (.int .i64 y.n) ∧ W'.cell? ⟨zb1, 2, none⟩ = some (.string y.t) ∧ W'.cell? ⟨zb1, 3, none⟩ = some (.slice cp1 cl1 cc1) ∧ W'.cell? ⟨Pb, 0, none⟩ = some (.slice (some ⟨g, 0, none⟩) xn vc) ∧ W'.cell? ⟨g, i, none⟩ = some (.slice pp p.length pc)) := Lib.hid fun W' hk => by
                  obtain ⟨f0, f1, f2, f3, f4, f5, f6, f7, f8, f9⟩ := HF2.out _ hk
                  exact ⟨f0, f1, f2, f3, f4, f5, f6, f7, f8, f9⟩
                clear HF2
                go_region_held3 (fun W' => W'.cell? ⟨zb2, 0, none⟩ = some (.string q.k) ∧ W'.cell? ⟨zb2, 1, none⟩ = some (.int .i64 q.n) ∧ W'.cell? ⟨zb2, 2, none⟩ = some (.string q.t) ∧ W'.cell? ⟨zb2, 3, none⟩ = some (.slice cp2 cl2 cc2) ∧ W'.cell? ⟨zb1, 0, none⟩ = some (.string y.k) ∧ W'.cell? ⟨zb1, 1, none⟩ = some (.int .i64 y.n) ∧ W'.cell? ⟨zb1, 2, none⟩ = some (.string y.t) ∧ W'.cell? ⟨zb1, 3, none⟩ = some (.slice cp1 cl1 cc1) ∧ W'.cell? ⟨Pb, 0, none⟩ = some (.slice (some ⟨g, 0, none⟩) xn vc) ∧ W'.cell? ⟨g, i, none⟩ = some (.slice pp p.length pc)) (exact HS6.out _ (by repeat' (first | exact hk | refine Keeps.drew ?_ | refine Keeps.alloc ?_ _ | refine Keeps.setCell ?_ (fun hh => absurd (show V3.heap.size < V2.heap.size from hh) (by omega)) _))) ((go_simp; go_at_call 14; refine (HPUT.out _ (by repeat' (first | exact hk | refine Keeps.drew ?_ | refine Keeps.alloc ?_ _ | refine Keeps.setCell ?_ (fun hh => absurd (show V3.heap.size < V2.heap.size from hh) (by omega)) _))).mono ?_; rintro e W1 hr; obtain ⟨cp1, cl1, cc1, A1, rfl, ht1, hA1, hk1⟩ := TreeRes.out2 hr; (try (have hzb := z0_cells (W := V3) hk1; obtain ⟨z0, z1, z2, z3, y0, y1, y2, y3⟩ := box4 hzb)); have hk := Keeps.trans (w := V2) (by repeat' (first | exact hk | refine Keeps.drew ?_ | refine Keeps.alloc ?_ _ | refine Keeps.setCell ?_ (fun hh => absurd (show V3.heap.size < V2.heap.size from hh) (by omega)) _)) hk1))
                all_goals
                  go_wp2_with fail
                  go_meet
                  case rel => first | exact TreeBox.early hk1 ht1 hA1 | exact TreeBox.late (Keeps.trans (Keeps.drew (Keeps.refl _ _)) hk1) ht1
              case rest =>
                obtain ⟨V4, hV4⟩ : ∃ V, V = wc := ⟨_, rfl⟩
                subst hV4
                obtain ⟨zb4, cp4, cl4, cc4, A4, rfl, rfl, hz4, hb4, ht4, hk4⟩ := hcut
                have hb3 := hk4.heap hb3k.out
                have ht3 := ht3k.out.next hk4
                have hG4 := (HG2.out.next hk).next hk4
                have hD4 := hk4.heap (hk.heap hD2)
                have hz := Same_any u.k u.k u.n u.n u.t u.t u.c u.c cp3 up cl3 cc3 ul uc _ _ V4 ht3 hG4.tu
                rw [eqB_self, big_small, show decide u.small = true by simp [HS'.out]] at hz
                obtain ⟨z0, z1, z2, z3, _⟩ := box4 hb3
                obtain ⟨_, ⟨r0, r1, r2, r3⟩, _⟩ := hG4.cells
                clear hb3k ht3k hk HPUT HF2
                go_wp2_with fail
                refine hz.mono ?_
                clear hz z0 z1 z2 z3 r0 r1 r2 r3
                rintro e V5 ⟨rfl, hk5⟩
                have hb4 := hk5.heap hb4
                have ht4 := ht4.next hk5
                have hG5 := hG4.next hk5
                have hD5 := hk5.heap hD4
                have hz := Same_any x.k x.k x.n x.n x.t x.t x.c x.c cp4 cp cl4 cc4 cl cc _ _ V5 ht4 hG5.tx
                rw [eqB_self, big_small, show decide x.small = true by simp [HS.out]] at hz
                obtain ⟨z0, z1, z2, z3, _⟩ := box4 hb4
                obtain ⟨⟨r0, r1, r2, r3⟩, _⟩ := hG5.cells
                clear hk5 hk4 ht3 hb3
                go_wp2_with fail
                refine hz.mono ?_
                clear hz z0 z1 z2 z3 r0 r1 r2 r3
                rintro e V6 ⟨rfl, hk6⟩
                have hG6 := hG5.next hk6
                have hD6 := hk6.heap hD5
                obtain ⟨_, _, r0, r1⟩ := hG6.cells
                clear hk6 hb4 ht4
                go_wp2_with fail
                have hres : ((V6.setCell ⟨w.heap.size + 1 + 1, 0, none⟩ (.bool true)).putObj W6.heap.size (.deferred none)).cell? ⟨w.heap.size + 1 + 1, 0, none⟩ = some (.bool true) := by
                  simp only [World.cell?, World.putObj_heap_other (Ne.symm hne), heap_set hG6.res]; rfl
                refine ret_mark (v := .bool true) ((Below.heap_setCell _ _ _ _ hne).trans hD6) (by simp [results, Try.results3, go_sem, hres]) ⟨rfl, ?_⟩
                exact (hG6.keeps.trans' ((Keeps.refl (fun b => b = w.heap.size + 1 + 1) V6).setCell (p := ⟨w.heap.size + 1 + 1, 0, none⟩) (fun _ => rfl) _) (fun b hb hl => by omega)).trans' (Keeps.putObj _ _ _) (fun b hb hl => by omega)
end Go.Proofs.Ytnphhibfiklfjaa
