/-
  espalierref24.find, Find: their walks.
-/
import Derived.Test.YtccoihmibkpedaaRFits2

import Derived.Test.YtccoihmibkpedaaPkG

import Derived.Deep.RegionHeld3

set_option linter.unusedVariables false

set_option linter.unusedSimpArgs false

namespace Go.Proofs.Ytccoihmibkpedaa

open Go.RowKit

attribute [local go_sem] Oper.semAt_some

/-- What find leaves. -/
def RFindR (D : Nat) (L : List (List Int)) (lp : Option Addr) (ll lc : Nat) (w : World) (v : Value) (w' : World) : Prop :=
  ∃ lp' ll' lc' vs', v = .slice lp' ll' lc' ∧ PathsI D w' L lp' ll' lc' vs' ∧ Keeps (fun b => (Value.slice lp ll lc).ownBlock = some b) w w' ∧ (∀ g, (Value.slice lp' ll' lc').ownBlock = some g → (Value.slice lp ll lc).ownBlock = some g ∨ w.heap.size ≤ g)
theorem PathsI.own_shape {D : Nat} {W : World} {L : List (List Int)} {lp : Option Addr} {ll lc : Nat} {vs : List Value} (h : PathsI D W L lp ll lc vs) {b : Nat} (hb : (Value.slice lp ll lc).ownBlock = some b) : D ≤ b ∧ ∃ cur, W.heap[b]? = some (.cells cur TI (0, 0)) := ownsRow_blk h.row hb
theorem PathsI.cap {D : Nat} {W : World} {L : List (List Int)} {lp : Option Addr} {ll lc : Nat} {vs : List Value} (h : PathsI D W L lp ll lc vs) : ll ≤ lc ∧ lc ≤ 9223372036854775807 := by
  obtain ⟨pp, cap, hv, h1, h2, h3⟩ := ownsRow_slice h.row
  have hl := h.leng
  have hn := h.len
  simp only [Value.slice.injEq] at hv
  obtain ⟨rfl, hq, rfl⟩ := hv
  unfold maxLen at h2
  exact ⟨by omega, h2⟩
set_option maxRecDepth 100000 in
set_option maxHeartbeats 6400000 in
theorem rfind_any (p : Nd) (hpn : p.c.nodes ≤ 1024) : ∀ (N : Nat), N ≤ 2000 → ∀ (x : Nd) (path : List Int) (pv : Value) (cp xp : Option Addr) (cl cc xl xc : Nat) (D : Nat) (L : List (List Int)) (lp : Option Addr) (ll lc : Nat) (vs : List Value) (w : World),
    x.c.nodes < N → path.length + N ≤ 10000 → L.length + x.c.nodes < 10000 → D ≤ w.heap.size → Tv w (fun b => b < D) p.k p.t p.c cp cl cc → Tv w (fun b => b < D) x.k x.t x.c xp xl xc → x.small → Row w pv path → PathsI D w L lp ll lc vs →
    Calls Try.prog 66 #[tv p.k p.n p.t cp cl cc, tv x.k x.n x.t xp xl xc, pv, .slice lp ll lc] w fun e w' => ∃ v, e = .returned v ∧ RFindR D (L ++ fndF p path x) lp ll lc w v w' := by
  intro N
  induction N with
  | zero => intros; omega
  | succ N ih =>
    intro hN1 x path pv cp xp cl cc xl xc D L lp ll lc vs w hcN hpN hLN hD hp hx hsm hpr hL
    obtain ⟨i0, hi0, hz0, hz1, hz2⟩ := info_parts Try.intInfo
    obtain ⟨Wp, hWp⟩ : ∃ W1, W1 = w.alloc (.cells (four p.k p.n p.t cp cl cc) T) := ⟨_, rfl⟩
    obtain ⟨W1, hW1⟩ : ∃ W1, W1 = Wp.alloc (.cells (four x.k x.n x.t xp xl xc) T) := ⟨_, rfl⟩
    have hKp : Keeps (fun _ => False) w Wp := by rw [hWp]; exact (Keeps.refl _ w).alloc _
    have hK1 : Keeps (fun _ => False) Wp W1 := by rw [hW1]; exact (Keeps.refl _ Wp).alloc _
    have hK := hKp.trans hK1
    have hsp : Wp.heap.size = w.heap.size + 1 := by rw [hWp]; simp
    have hs1 : W1.heap.size = w.heap.size + 1 + 1 := by rw [hW1]; simp [hsp]
    have hb1 : W1.heap[w.heap.size]? = some (.cells (four p.k p.n p.t cp cl cc) T (0, 0)) := by
      refine hK1.heap ?_
      rw [hWp]; exact heap_alloc_new _ _
    have hb2 : W1.heap[w.heap.size + 1]? = some (.cells (four x.k x.n x.t xp xl xc) T (0, 0)) := by rw [hW1, ← hsp]; exact heap_alloc_new _ _
    have hp1 := hp.next hK
    have hx1 := hx.next hK
    have hpr1 := hpr.keeps hK (fun g hg => ⟨hpr.lt hg, fun h => h⟩)
    have hL1 := hL.next hK (fun _ h => h.elim)
    obtain ⟨pp, pc, rfl, hints⟩ := hpr1.ints (by omega)
    have HW : Hid (W1 = (w.alloc (.cells (four p.k p.n p.t cp cl cc) T)).alloc (.cells (four x.k x.n x.t xp xl xc) T)) := Lib.hid (by rw [hW1, hWp])
    have hz := rfits_any W1.heap.size (fun b => b < D) (fun b => b < D) (fun b hb => by omega) (fun b hb => by omega) (p.c.nodes + 1) p.k p.n p.t p.c cp cl cc x xp xl xc [] none 0 0 [] W1 (by omega) hp1 hx1 hsm (BindsX.start _ _ _) (by simp) (Nat.le_refl _) (by simp; omega)
    obtain ⟨c0, c1, c2, c3, _⟩ := box4 hb1
    obtain ⟨d0, d1, d2, d3, _⟩ := box4 hb2
    have hxl := hx.lc
    have hxm := hx.cm
    have HLL := Lib.hid hx.len
    have hcl : xl ≤ 2000 := by have h1 := Fo.len_nodes x.c; have := hx.len; omega
    obtain ⟨⟨M, ok⟩, hq⟩ : ∃ q, fit1 p.k p.n p.t p.c x [] = q := ⟨_, rfl⟩
    rw [hq] at hz
    have hf1 : fnd1 p path x = if ok then [path] else [] := by unfold fnd1; rw [hq]
    have HF1 := Lib.hid hf1
    have HI := Lib.hid ih
    have HB1 := Lib.hid hb1
    have HB2 := Lib.hid hb2
    have HP1 := Lib.hid hp1
    have HX1 := Lib.hid hx1
    have HPR1 := Lib.hid hpr1
    have HL1 := Lib.hid hL1
    have HINT := Lib.hid hints
    have HS1 := Lib.hid hs1
    have HSM := Lib.hid hsm
    have HL := Lib.hid hL
    clear hW1 hWp ih hq hf1 hb1 hb2 hp1 hx1 hpr1 hL1 hints hs1 hsp hKp hK1 hsm hpr hp hx hL
    go_enter Try.func66, Try.ntmps66
    go_upto_region 1 with fail
    rw [← HW.out]
    go_wp2_with fail
    refine hz.mono ?_
    clear hz c0 c1 c2 c3 d0 d1 d2 d3
    rintro e W2 ⟨zp, zl, zc, zx, rfl, _, _, hk2⟩
    have hk2 : Keeps (fun _ => False) W1 W2 := hk2.mono fun b hb _ => by simp [Value.ownBlock] at hb
    have HK2 := Lib.hid hk2
    clear hk2
    go_upto_if 18 with fail
    go_cut [3] from 9 (RFindR D (L ++ fnd1 p path x) lp ll lc W2)
    case first =>
      cases ok with
      | false =>
        go_wp2_with fail
        go_meet
        case rel =>
          rw [HF1.out]
          exact ⟨lp, ll, lc, vs, rfl, by simpa using HL1.out.next HK2.out (fun _ h => h.elim), Keeps.refl _ _, fun g hg => .inl hg⟩
      | true =>
        have hL2 := HL1.out.next HK2.out (fun _ h => h.elim)
        have hi2 := HINT.out.keeps HK2.out (fun _ _ h => h)
        have hll := hL2.leng
        have hvs := hL2.len
        obtain ⟨hlc1, hlc2⟩ := hL2.cap
        obtain ⟨i5, hi5, hy0, hy1, hy2⟩ := info_parts Try.pathInfo
        have hDW : D ≤ W2.heap.size := by have := HK2.out.size; have := HS1.out; omega
        have hpl : path.length ≤ 9223372036854775807 := by omega
        have hsh : path.length ≤ 17592186044416 := by omega
        have hvl : vs.length ≤ 20000 := by omega
        have HL2 := Lib.hid hL2
        have HVS := Lib.hid hvs
        clear hL2 hll hvs
        go_wp2_with (at_builtin; refine wpList_clone rfl _ _ _ rfl i0 _ Try.underlying50 hi0 hz0 hz1 hz2 rfl rfl pc rfl hi2 hsh ?_)
        intro qv Wc hqr hkc hqg
        obtain ⟨gp, gc, rfl, hqi⟩ := hqr.ints hpl
        have HKC := Lib.hid hkc
        have HQR := Lib.hid hqr
        have HQG := Lib.hid hqg
        have hrowc : Wc.ownsRow D TI 1 (.slice lp ll lc) vs.length vs := (HL2.out.next hkc (fun _ h => h.elim)).row
        have HRC := Lib.hid hrowc
        have hDc : D ≤ Wc.heap.size := by have := hkc.size; omega
        clear hkc hqr hqg hqi hrowc hi2
        go_wp2_with (at_builtin; refine wpList_append_lies _ rfl _ _ _ rfl D TI i5 _ 1 24 Try.underlying43 hi5 hy0 hy1 hy2 rfl (by decide) (.slice lp ll lc) vs.length vs rfl (HRC.out.alloc _) ⟨Wc.heap.size, 0, none⟩ 1 1 [.slice gp path.length gc] rfl rfl (World.news_of_block (cs := #[.slice gp path.length gc]) (t := TI) (fr := (0, 0)) (heap_alloc_new Wc _)) (by simp [Value.oneCell']) (by omega) (by simp only [maxLen]; omega) (by omega) (by simp; omega) (Wc.heap.size + 1) (by simp) ?_; intro gg cap w3 hown3 hgrow3 hat3 hlt3)
        go_wp2_with fail
        go_meet
        case rel =>
          have hka : Keeps (fun _ => False) W2 (Wc.alloc (.cells #[.slice gp path.length gc] TI)) := HKC.out.alloc _
          have hLr := Lists.push (v := .slice gp path.length gc) (c := (path.length, path.map vint)) HL2.out (show TI ≠ 3 by decide) hDW hka (HQR.out.own.alloc _) HQG.out hown3 hgrow3
          rw [HF1.out]
          refine ⟨some ⟨gg, 0, none⟩, vs.length + 1, cap, vs ++ [.slice gp path.length gc], rfl, ?_, ?_, ?_⟩
          · simp only [if_true]
            unfold PathsI
            rw [List.map_append]
            exact hLr
          · exact (hka.mono (S' := fun b => (Value.slice lp ll lc).ownBlock = some b) (fun _ h _ => False.elim h)).grown hgrow3 (fun b hb _ => hb)
          · intro g hg
            have : gg = g := by simpa [Value.ownBlock] using hg
            subst this
            rcases hat3 with h | h
            · exact .inl h
            · exact .inr (by have := HKC.out.size; omega)
    case rest =>
      obtain ⟨V, hV⟩ : ∃ V, V = wc := ⟨_, rfl⟩
      subst hV
      obtain ⟨lp2, ll2, lc2, vs2, hu0, hL2, hk2', hg2⟩ := hcut
      subst hu0
      have hk1V : Keeps (fun b => (Value.slice lp ll lc).ownBlock = some b) W1 V := (HK2.out.mono (fun _ h _ => h.elim)).trans hk2'
      have hgV : ∀ g, (Value.slice lp2 ll2 lc2).ownBlock = some g → (Value.slice lp ll lc).ownBlock = some g ∨ W1.heap.size ≤ g := fun g hg => (hg2 g hg).imp (fun h => h) (fun h => by have := HK2.out.size; omega)
      have hne : Hid (∀ (q : Nat) (c : Array Value), W1.heap[q]? = some (.cells c T (0, 0)) → (Value.slice lp ll lc).ownBlock ≠ some q) := Lib.hid fun q c h e => by
        obtain ⟨_, cur, h1⟩ := HL1.out.own_shape e
        rw [h] at h1
        simp only [Option.some.injEq, Obj.cells.injEq] at h1
        exact absurd h1.2.1 (by decide)
      have hsV := hk1V.size
      have hbxV := (hk1V.block _ (heap_lt HB2.out) (hne.out _ _ HB2.out)).trans HB2.out
      have HL2' := Lib.hid hL2
      have HKV := Lib.hid hk1V
      have HGV := Lib.hid hgV
      clear hL2 hk1V hgV hk2' hg2
      obtain ⟨_, _, _, b3, _⟩ := box4 hbxV
      clear hbxV
      go_wp2_with fail
      go_loopg [3, 11] xl (fun m l i W => ∃ j : Nat, j + m = xl ∧ i = .int .i64 j ∧ ∃ Lj lpj llj lcj vsj, l = .slice lpj llj lcj ∧ PathsI D W Lj lpj llj lcj vsj ∧ Lj.length + (x.c.drop j).nodes ≤ 10000 ∧ Lj ++ fndK p path j (x.c.drop j) = L ++ fndF p path x ∧ Keeps (fun b => (Value.slice lp ll lc).ownBlock = some b) W1 W ∧ (∀ g, (Value.slice lpj llj lcj).ownBlock = some g → (Value.slice lp ll lc).ownBlock = some g ∨ W1.heap.size ≤ g))
      case atStart => exact ⟨0, by omega, rfl, _, _, _, _, _, rfl, HL2'.out, by have h1 := fnd1_len p path x; simp only [List.length_append, Fo.drop]; omega, by rw [fndF_eq, List.append_assoc]; rfl, HKV.out, HGV.out⟩
      case round =>
        obtain ⟨j, hjm, rfl, Lj, lpj, llj, lcj, vsj, rfl, hLj, hLn, hLe, hkr, hgj⟩ := hrel
        have hbp := (hkr.block _ (heap_lt HB1.out) (hne.out _ _ HB1.out)).trans HB1.out
        have hbx := (hkr.block _ (heap_lt HB2.out) (hne.out _ _ HB2.out)).trans HB2.out
        obtain ⟨_, _, _, b3, _⟩ := box4 hbx
        obtain ⟨q0, q1, q2, q3, _⟩ := box4 hbp
        have HJ := Lib.hid hjm
        have HLJ := Lib.hid hLj
        have HLE := Lib.hid hLe
        have HLN := Lib.hid hLn
        have HKR := Lib.hid hkr
        have HGJ := Lib.hid hgj
        have hks := hkr.size
        clear hjm
        by_cases hlt : j < xl
        · have hlo : ∀ b, (Value.slice lp ll lc).ownBlock = some b → D ≤ b := fun b e => (HL1.out.row.lt _ e).1
          have htp := HP1.out.keeps hkr (fun b hb e => by have := hlo _ e; omega)
          have htr := HX1.out.keeps hkr (fun b hb e => by have := hlo _ e; omega)
          obtain ⟨kb, ko, rfl, hAk, hkb⟩ := htr.kids.hasAddr (by omega)
          obtain ⟨k1, n1, t1, s1, r1, hdr⟩ := Fo.drop_lt j x.c (by rw [htr.kids.len]; exact hlt)
          obtain ⟨cp1, cl1, cc1, hn1⟩ := htr.kids.at_ j hdr hlt
          have hcN1 : s1.nodes < N := by
            have h1 := Fo.nodes_drop j x.c
            rw [hdr] at h1
            simp only [Fo.nodes] at h1
            omega
          have hlen : Lj.length + s1.nodes < 10000 := by
            rw [hdr] at hLn
            simp only [Fo.nodes] at hLn
            omega
          have hALL : Hid (∀ (W' : World) (g2 cap2 : Nat), Keeps (fun _ => False) wr W' → Row W' (.slice (some ⟨g2, 0, none⟩) (path.length + 1) cap2) (path ++ [(j : Int)]) → Calls Try.prog 66 #[tv p.k p.n p.t cp cl cc, tv k1 n1 t1 cp1 cl1 cc1, .slice (some ⟨g2, 0, none⟩) (path.length + 1) cap2, .slice lpj llj lcj] W' fun e w' => ∃ v, e = .returned v ∧ RFindR D (Lj ++ fndF p (path ++ [(j : Int)]) ⟨k1, n1, t1, s1⟩) lpj llj lcj W' v w') := Lib.hid fun W' g2 cap2 hk hrow =>
            HI.out (by omega) ⟨k1, n1, t1, s1⟩ (path ++ [(j : Int)]) _ cp cp1 cl cc cl1 cc1 D Lj lpj llj lcj vsj W' hcN1 (by simp; omega) hlen (by have := hk.size; have := HS1.out; omega) (htp.next hk) (hn1.tv.next hk) (Nd.kid_small (k := x.k) (n := x.n) (t := x.t) hdr HSM.out) hrow (hLj.next hk (fun _ h => h.elim))
          have hprr : Row wr (.slice pp path.length pc) path := HPR1.out.keeps hkr (fun g hg => ⟨HPR1.out.lt hg, fun e => by
            obtain ⟨_, cur, h1⟩ := HL1.out.own_shape e
            obtain ⟨cur', h2⟩ := HPR1.out.shape g hg
            rw [h1] at h2
            simp only [Option.some.injEq, Obj.cells.injEq] at h2
            exact absurd h2.2.1 (by decide)⟩)
          obtain ⟨pp', pc', he', hir⟩ := hprr.ints (by omega)
          simp only [Value.slice.injEq] at he'
          obtain ⟨rfl, _, rfl⟩ := he'
          have hCl : Hid (∀ W', Keeps (fun _ => False) wr W' → Ints W' _ path pp path.length) := Lib.hid fun W' hk => hir.keeps hk (fun _ _ h => h)
          have hne2 : Hid (∀ (q : Nat) (c : Array Value), wr.heap[q]? = some (.cells c T (0, 0)) → (Value.slice lpj llj lcj).ownBlock ≠ some q) := Lib.hid fun q c h e => by
            obtain ⟨_, cur, h1⟩ := HLJ.out.own_shape e
            rw [h] at h1
            simp only [Option.some.injEq, Obj.cells.injEq] at h1
            exact absurd h1.2.1 (by decide)
          have hS2 : Hid (∀ W', Keeps (fun b => (Value.slice lpj llj lcj).ownBlock = some b) wr W' → W'.cell? ⟨w.heap.size + 1, 3, none⟩ = some (.slice (some ⟨kb, ko, none⟩) xl xc) ∧ (W'.cell? ⟨kb, ko + j * 4, none⟩ = some (.string k1) ∧ W'.cell? ⟨kb, ko + j * 4 + 1, none⟩ = some (.int .i64 n1) ∧ W'.cell? ⟨kb, ko + j * 4 + 2, none⟩ = some (.string t1) ∧ W'.cell? ⟨kb, ko + j * 4 + 3, none⟩ = some (.slice cp1 cl1 cc1)) ∧ W'.cell? ⟨w.heap.size, 0, none⟩ = some (.string p.k) ∧ W'.cell? ⟨w.heap.size, 1, none⟩ = some (.int .i64 p.n) ∧ W'.cell? ⟨w.heap.size, 2, none⟩ = some (.string p.t) ∧ W'.cell? ⟨w.heap.size, 3, none⟩ = some (.slice cp cl cc)) := Lib.hid fun W' hk => by
            obtain ⟨_, _, _, a3, _⟩ := box4 ((hk.block _ (heap_lt hbx) (hne2.out _ _ hbx)).trans hbx)
            obtain ⟨e0, e1, e2, e3, _⟩ := box4 ((hk.block _ (heap_lt hbp) (hne2.out _ _ hbp)).trans hbp)
            have hlj : ∀ b, (Value.slice lpj llj lcj).ownBlock = some b → D ≤ b := fun b e => (HLJ.out.row.lt _ e).1
            have hn2 := hn1.keeps hk (fun b hb e => by have := hlj _ e; omega) hkb (fun e => by have := hlj _ e; omega)
            exact ⟨a3, ⟨hn2.c0, hn2.c1, hn2.c2, hn2.c3⟩, e0, e1, e2, e3⟩
          have hS : Hid (∀ W', Keeps (fun _ => False) wr W' → W'.cell? ⟨w.heap.size + 1, 3, none⟩ = some (.slice (some ⟨kb, ko, none⟩) xl xc) ∧ (W'.cell? ⟨kb, ko + j * 4, none⟩ = some (.string k1) ∧ W'.cell? ⟨kb, ko + j * 4 + 1, none⟩ = some (.int .i64 n1) ∧ W'.cell? ⟨kb, ko + j * 4 + 2, none⟩ = some (.string t1) ∧ W'.cell? ⟨kb, ko + j * 4 + 3, none⟩ = some (.slice cp1 cl1 cc1)) ∧ W'.cell? ⟨w.heap.size, 0, none⟩ = some (.string p.k) ∧ W'.cell? ⟨w.heap.size, 1, none⟩ = some (.int .i64 p.n) ∧ W'.cell? ⟨w.heap.size, 2, none⟩ = some (.string p.t) ∧ W'.cell? ⟨w.heap.size, 3, none⟩ = some (.slice cp cl cc)) := Lib.hid fun W' hk => hS2.out _ (hk.mono fun _ h _ => h.elim)
          have hk : Keeps (fun _ => False) wr wr := Keeps.refl _ _
          have hi0' : (0 : Int) ≤ (j : Int) := Int.natCast_nonneg _
          have hi1 : (j : Int) < (xl : Int) := by omega
          have HD := Lib.hid hdr
          have HLO := Lib.hid hlo
          clear hdr hn1 htr htp hLj hLe hLn hkr hgj hlen hprr hir hbx hbp hlo
          obtain ⟨r3, ⟨r4, r5, r6, r7⟩, r8, r9, r10, r11⟩ := hS.out wr hk
          go_wp2_with fail
          go_region_held3 (fun W' => W'.cell? ⟨w.heap.size + 1, 3, none⟩ = some (.slice (some ⟨kb, ko, none⟩) xl xc) ∧ (W'.cell? ⟨kb, ko + j * 4, none⟩ = some (.string k1) ∧ W'.cell? ⟨kb, ko + j * 4 + 1, none⟩ = some (.int .i64 n1) ∧ W'.cell? ⟨kb, ko + j * 4 + 2, none⟩ = some (.string t1) ∧ W'.cell? ⟨kb, ko + j * 4 + 3, none⟩ = some (.slice cp1 cl1 cc1)) ∧ W'.cell? ⟨w.heap.size, 0, none⟩ = some (.string p.k) ∧ W'.cell? ⟨w.heap.size, 1, none⟩ = some (.int .i64 p.n) ∧ W'.cell? ⟨w.heap.size, 2, none⟩ = some (.string p.t) ∧ W'.cell? ⟨w.heap.size, 3, none⟩ = some (.slice cp cl cc))
            (first | exact hS2.out _ hk4 | exact hS.out _ (by repeat' (first | exact hk | refine Keeps.drew ?_ | refine Keeps.alloc ?_ _)))
            (first
              | ((go_simp; go_at_call 66; refine (hALL.out _ _ _ hk hrow3).mono ?_; rintro e W4 ⟨_, rfl, lp4, ll4, lc4, vs4, rfl, hL4, hk4', hg4⟩; have hk4 : Keeps (fun b => (Value.slice lpj llj lcj).ownBlock = some b) wr W4 := (Keeps.mono (S := fun _ => False) hk (fun _ h _ => h.elim)).trans hk4'))
              | ((refine step_clone (by rfl) _ _ _ (by rfl) i0 _ Try.underlying50 hi0 hz0 hz1 hz2 rfl (by rfl) pc (by rfl) (hCl.out _ (by repeat' (first | exact hk | refine Keeps.drew ?_ | refine Keeps.alloc ?_ _))) (by omega) ?_; intro qv Wc hqr hkc hqg; obtain ⟨gp, gc, rfl, hqi⟩ := hqr.ints (by omega); have hq1 : ∀ g, (Value.slice gp path.length gc).ownBlock = some g → wr.heap.size ≤ g := fun g hg => Nat.le_trans (Keeps.size (S := fun _ => False) (by repeat' (first | exact hk | refine Keeps.drew ?_ | refine Keeps.alloc ?_ _))) (hqg g hg); (try (have hBe := hkc.heap (show ((wr.alloc (.cells #[vint j] 3)).drew).heap[wr.heap.size]? = _ from heap_alloc_new wr _))); have hk := Keeps.trans (w := wr) (by repeat' (first | exact hk | refine Keeps.drew ?_ | refine Keeps.alloc ?_ _)) hkc))
              | (((first | refine step_longer (by rfl) _ _ _ (by rfl) i0 _ Try.underlying50 hi0 hz0 hz1 hz2 rfl (.slice gp path.length gc) path (by omega) (by rfl) hqr (j : Int) wr.heap.size (by rfl) hBe ?_ | refine step_longer (by rfl) _ _ _ (by rfl) i0 _ Try.underlying50 hi0 hz0 hz1 hz2 rfl (.slice gp path.length gc) path (by omega) (by rfl) (hqr.keeps ((Keeps.refl (fun _ => False) _).alloc _) (fun g hg => ⟨hqr.lt hg, fun h => h⟩)) (j : Int) Wc.heap.size (by rfl) (heap_alloc_new Wc _) ?_); intro g2 cap2 w3 hrow3 hg3 hcase; have hk : Keeps (fun _ => False) wr w3 := hcase.elim (fun hc => Keeps.trans' (by repeat' (first | exact hk | refine Keeps.drew ?_ | refine Keeps.alloc ?_ _)) hc.2 (fun b hb hl => by have := hq1 b (by rw [hc.1, hb]; rfl); omega)) (fun hc => Keeps.trans (by repeat' (first | exact hk | refine Keeps.drew ?_ | refine Keeps.alloc ?_ _)) hc.2))))
          all_goals
            have HL4 := Lib.hid hL4
            have HK4 := Lib.hid hk4
            have HG4 := Lib.hid hg4
            have HKW := Lib.hid hk
            clear hL4 hk4 hk4' hg4 hk
            go_wp2_with fail
            go_roundg (gk - 1)
            case measure => have := HJ.out; omega
            case rel =>
              refine ⟨j + 1, by have := HJ.out; omega, by go_num, _, lp4, ll4, lc4, _, rfl, HL4.out, ?_, ?_, HKR.out.trans' HK4.out (fun b hb hl => ?_), fun g' hg' => ?_⟩
              · have h0 := HLN.out
                have h1 := fndF_len p (path ++ [(j : Int)]) ⟨k1, n1, t1, s1⟩
                rw [HD.out] at h0
                rw [Fo.drop_step HD.out]
                simp only [Fo.nodes, List.length_append] at h0 h1 ⊢
                omega
              · rw [← HLE.out, HD.out, fndK_cons, Fo.drop_step HD.out, List.append_assoc]
              · rcases HGJ.out b hb with h1 | h1
                · exact h1
                · omega
              · rcases HG4.out g' hg' with h1 | h1
                · exact HGJ.out g' h1
                · have := HKW.out.size; exact .inr (by omega)
        · have hdn : x.c.drop j = .nil := Fo.drop_len_le (by have := HX1.out.kids.len; omega)
          rw [hdn] at hLe
          have hkn : fndK p path j .nil = [] := rfl
          rw [hkn, List.append_nil] at hLe
          have HLE' := Lib.hid hLe
          clear hdn hLj hLe hkr hgj hkn
          go_wp2_with fail
          go_ret
          refine ⟨_, rfl, lpj, llj, lcj, vsj, rfl, by rw [← HLE'.out]; exact HLJ.out, (hK.mono (fun _ h _ => h.elim)).trans HKR.out, fun g hg => (HGJ.out g hg).imp (fun h => h) (fun h => by have := HS1.out; omega)⟩
set_option maxRecDepth 100000 in
set_option maxHeartbeats 3200000 in
theorem RFind_any (p t : Nd) (cp tp : Option Addr) (cl cc tl tc : Nat) (A A' : Nat → Prop) (w : World) (h : Tv w A p.k p.t p.c cp cl cc) (h' : Tv w A' t.k t.t t.c tp tl tc) :
    Calls Try.prog 21 #[tv p.k p.n p.t cp cl cc, tv t.k t.n t.t tp tl tc] w (MFindR (findF p t) w) := by
  obtain ⟨W1, hW1⟩ : ∃ W1, W1 = (w.alloc (.cells (four p.k p.n p.t cp cl cc) T)).alloc (.cells (four t.k t.n t.t tp tl tc) T) := ⟨_, rfl⟩
  have hK : Keeps (fun _ => False) w W1 := by rw [hW1]; exact ((Keeps.refl _ w).alloc _).alloc _
  have hs1 : W1.heap.size = w.heap.size + 2 := by rw [hW1]; simp
  have hb1 : W1.heap[w.heap.size]? = some (.cells (four p.k p.n p.t cp cl cc) T (0, 0)) := by
    rw [hW1]
    exact ((Keeps.refl (fun _ => False) (w.alloc (.cells (four p.k p.n p.t cp cl cc) T))).alloc _).heap (heap_alloc_new _ _)
  have hb2 : W1.heap[w.heap.size + 1]? = some (.cells (four t.k t.n t.t tp tl tc) T (0, 0)) := by
    rw [hW1]
    have := heap_alloc_new (w.alloc (.cells (four p.k p.n p.t cp cl cc) T)) (.cells (four t.k t.n t.t tp tl tc) T)
    simpa using this
  have hp1 := h.top.next hK
  have ht1 := h'.top.next hK
  have hm2 := rMay_any t tp tl tc _ W1 ht1
  have hm1 : Hid (∀ W, Keeps (fun _ => False) W1 W → Calls Try.prog 48 #[tv p.k p.n p.t cp cl cc] W fun e w' => e = .returned (.int .i64 (pmayF p)) ∧ Keeps (fun _ => False) W w') := Lib.hid fun W hk => rPMay_any p cp cl cc _ W (hp1.next hk)
  obtain ⟨b0, b1, b2, b3, _⟩ := box4 hb2
  obtain ⟨rp, hrp⟩ : ∃ r, pmayF p = r := ⟨_, rfl⟩
  obtain ⟨rt, hrt⟩ : ∃ r, mayF t = r := ⟨_, rfl⟩
  rw [hrt] at hm2
  rw [hrp] at hm1
  have HW := Lib.hid hW1
  have HB1 := Lib.hid hb1
  have HB2 := Lib.hid hb2
  have HS1 := Lib.hid hs1
  have HP1 := Lib.hid hp1
  have HT1 := Lib.hid ht1
  clear hW1 hb1 hb2 hs1 hp1 ht1 h h'
  by_cases h1 : rp = 0
  · by_cases h2 : rt = 0
    · subst h1
      subst h2
      have hsp : p.small := mayF_small (pmayF_zero hrp).1
      have hst : t.small := mayF_small hrt
      have hFF : Hid (findF p t = fndF p [] t) := by show findF p t = _; unfold findF; rw [if_pos ⟨hrp, hrt⟩]; rfl
      clear hrp hrt
      go_enter Try.func21, Try.ntmps21
      go_upto_region 1 with fail
      rw [← HW.out]
      go_wp2_with fail
      refine hm2.mono ?_
      clear hm2 b0 b1 b2 b3
      rintro e W ⟨rfl, hk⟩
      have hbp := hk.heap HB1.out
      have hbt := hk.heap HB2.out
      obtain ⟨d0, d1, d2, d3, _⟩ := box4 hbp
      have hm1' := hm1.out W hk
      clear hm1
      go_wp2_with fail
      refine hm1'.mono ?_
      clear hm1' d0 d1 d2 d3
      rintro e W2 ⟨rfl, hk2⟩
      obtain ⟨b0, b1, b2, b3, _⟩ := box4 (hk2.heap hbp)
      obtain ⟨d0, d1, d2, d3, _⟩ := box4 (hk2.heap hbt)
      have hk12 := hk.trans hk2
      have hsz2 := hk12.size
      have hw1 := hK.size
      have hz := rfind_any p (by have := small_nodes hsp; omega) (t.c.nodes + 1) (by have := small_nodes hst; omega) t [] (.slice none 0 0) cp tp cl cc tl tc w.heap.size [] none 0 0 [] W2 (by omega) (by have := small_nodes hst; simp; omega) (by have := small_nodes hst; simp; omega) (by omega) (HP1.out.next hk12) (HT1.out.next hk12) hst ⟨World.ownsRow_nil _ _ _ _, fun _ => rfl⟩ (PathsI.start _ _)
      have HBP := Lib.hid hbp
      have HBT := Lib.hid hbt
      clear hbp hbt
      go_wp2_with fail
      refine hz.mono ?_
      clear hz b0 b1 b2 b3 d0 d1 d2 d3
      rintro e W4 ⟨_, rfl, lp, ll, lc, vs, rfl, hL, hk4, _⟩
      have HL := Lib.hid hL
      clear hL
      go_wp2_with fail
      go_ret
      refine ⟨lp, ll, lc, vs, rfl, ?_, (hK.trans hk12).trans' hk4 (fun b hb hl => by simp [Value.ownBlock] at hb)⟩
      rw [hFF.out]
      simpa using HL.out
    · have hne : (rt != 0) = true := by simpa using h2
      have hFF : Hid (findF p t = []) := by show findF p t = _; unfold findF; rw [if_neg (fun hh => h2 (hrt ▸ hh.2))]
      subst h1
      clear hrp hrt
      go_enter Try.func21, Try.ntmps21
      go_upto_region 1 with fail
      rw [← HW.out]
      go_wp2_with fail
      refine hm2.mono ?_
      clear hm2 b0 b1 b2 b3
      rintro e W ⟨rfl, hk⟩
      have hbp := hk.heap HB1.out
      have hbt := hk.heap HB2.out
      obtain ⟨d0, d1, d2, d3, _⟩ := box4 hbp
      have hm1' := hm1.out W hk
      clear hm1
      go_wp2_with fail
      refine hm1'.mono ?_
      clear hm1' d0 d1 d2 d3
      rintro e W2 ⟨rfl, hk2⟩
      go_wp2_with fail
      go_ret
      exact ⟨none, 0, 0, [], rfl, by rw [hFF.out]; exact PathsI.start _ _, (hK.trans hk).trans hk2⟩
  · have hne : (rp != 0) = true := by simpa using h1
    have hFF : Hid (findF p t = []) := by show findF p t = _; unfold findF; rw [if_neg (fun hh => h1 (hrp ▸ hh.1))]
    clear hrp hrt
    go_enter Try.func21, Try.ntmps21
    go_upto_region 1 with fail
    rw [← HW.out]
    go_wp2_with fail
    refine hm2.mono ?_
    clear hm2 b0 b1 b2 b3
    rintro e W ⟨rfl, hk⟩
    have hbp := hk.heap HB1.out
    have hbt := hk.heap HB2.out
    obtain ⟨d0, d1, d2, d3, _⟩ := box4 hbp
    have hm1' := hm1.out W hk
    clear hm1
    go_wp2_with fail
    refine hm1'.mono ?_
    clear hm1' d0 d1 d2 d3
    rintro e W2 ⟨rfl, hk2⟩
    go_wp2_with fail
    go_ret
    exact ⟨none, 0, 0, [], rfl, by rw [hFF.out]; exact PathsI.start _ _, (hK.trans hk).trans hk2⟩
end Go.Proofs.Ytccoihmibkpedaa
