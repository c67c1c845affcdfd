/-
  match.Find's inner function: its walk.
-/
import Derived.Test.YtccoihmibkpedaaPkF

import Derived.Deep.RegionHeld3

import Derived.Deep.RegionLaw

import Derived.Deep.Cut

set_option linter.unusedVariables false

set_option linter.unusedSimpArgs false

namespace Go.Proofs.Ytccoihmibkpedaa

open Go.RowKit

theorem Try.pathInfo : (Try.prog.info? TI).map (fun i => (i.zero, i.size, i.bytes)) = some (some (.slice none 0 0), 1, 24) := by kernel_rfl
theorem row_slice {w : World} {b e s n : Nat} {v : Value} {xs : List Value} (h : w.ownsRow b e s v n xs) : ∃ p l c, v = .slice p l c := by
  rcases h.2 with ⟨h1, _⟩ | ⟨g, cap, cur, h1, _⟩
  · exact ⟨_, _, _, h1⟩
  · exact ⟨_, _, _, h1⟩
set_option maxRecDepth 100000 in
set_option maxHeartbeats 3200000 in
theorem fover_any (A : Nat → Prop) (Pb Lb Ob D : Nat) (p : Nd) (cp : Option Addr) (cl cc : Nat) (hpo : PatOK p.all) (hsp : p.small) (hAD : ∀ b, A b → b < D) (hPb : A Pb) (hLb : Lb < D ∧ ¬ A Lb) (hOb : Ob < D ∧ ¬ A Ob) (hLO : Lb ≠ Ob) : ∀ (N : Nat), N ≤ 2000 → ∀ (x : Nd) (path : List Int) (pv : Value) (b o : Nat) (xp : Option Addr) (xl xc : Nat) (L : List (List Int)) (lp : Option Addr) (ll lc : Nat) (vs : List Value) (w : World),
    x.c.nodes < N → path.length + N ≤ 10000 → L.length + x.c.nodes < 10000 → D ≤ w.heap.size → x.small → A b → NodeAt w A b o x.k x.n x.t x.c xp xl xc → Row w pv path → FndJ A Pb Lb Ob D p cp cl cc L w lp ll lc vs →
    Calls Try.prog 67 #[.pointer (some ⟨b, o, none⟩), pv, .pointer (some ⟨Pb, 0, none⟩), .pointer (some ⟨Lb, 0, none⟩), .pointer (some ⟨Ob, 0, none⟩)] w fun e w' => e = .returned (.tuple #[]) ∧ FndR A Pb Lb Ob D p cp cl cc (L ++ fndF p path x) lp ll lc w w' := by
  intro N
  induction N with
  | zero => intros; omega
  | succ N ih =>
    intro hN x path pv b o xp xl xc L lp ll lc vs w hcN hpN hLN hD hsm hb hn hpr hJ
    obtain ⟨i0, hi0, hz0, hz1, hz2⟩ := info_parts Try.intInfo
    have hi0' := hi0
    obtain ⟨i5, hi5, hy0, hy1, hy2⟩ := info_parts Try.pathInfo
    have hmm := @run_makeMap Try.prog
    obtain ⟨W1, hW1⟩ : ∃ W1, W1 = w.alloc (.map #[] 0) := ⟨_, rfl⟩
    have hK1 : Keeps (fun _ => False) w W1 := by rw [hW1]; exact (Keeps.refl _ w).alloc _
    have hs1 : W1.heap.size = w.heap.size + 1 := by rw [hW1]; simp
    have hM1 : MapAt W1 w.heap.size noM 0 := by rw [hW1]; exact MapAt.made w
    have hbD := hAD b hb
    have hPD := hAD Pb hPb
    have hAw : ∀ b, A b → b < w.heap.size := fun b hb => by have := hAD b hb; omega
    have hJ1 := hJ.keeps hK1 (fun _ h => h.elim) hAw (by omega)
    have hn1 := hn.next hK1 (by omega)
    have hpr1 := hpr.keeps hK1 (fun g hg => ⟨hpr.lt hg, fun h => h⟩)
    have hf := fits_any A A p.all w.heap.size hpo (fun b hb => by have := hAD b hb; omega) (fun b hb => by have := hAD b hb; omega) (p.c.nodes + 1) p.k p.n p.t p.c Pb 0 cp cl cc x b o xp xl xc [] W1 (by omega) (fun x hx => hx) hPb (by omega) hb (by omega) hJ1.pat hn1 hsm ⟨noM, 0, hM1, by simp, fun nm => by simp [noM, bget], fun nm y hy => by simp [bget] at hy⟩ (fun nm y hy => by simp [bget] at hy) (by have := small_nodes hsp; simp; omega)
    obtain ⟨r, hr⟩ : ∃ r, (fit1 p.k p.n p.t p.c x []).2 = r := ⟨_, rfl⟩
    unfold FitR at hf
    rw [hr] at hf
    have hvl : vs.length ≤ 10000 := by have := hJ.row.len; omega
    have HE1 : Hid (fnd1 p path x = if r then [path] else []) := by show fnd1 p path x = _; unfold fnd1; rw [hr]
    have HNM : Hid (¬ A w.heap.size ∧ w.heap.size ≠ Lb ∧ w.heap.size ≠ Ob ∧ ¬ Lists.Blk (.slice lp ll lc) vs w.heap.size) := ⟨fun h => by have := hAD _ h; omega, by omega, by omega, fun h => by have := (Lists.lo hJ.row h).2; omega⟩
    have hpn : ∀ g, pv.ownBlock = some g → g ≠ w.heap.size := fun g hg => Nat.ne_of_lt (hpr.lt hg)
    have HN0 := Lib.hid hn
    have HPR := Lib.hid hpr
    have HOW : Hid (∀ c, (Value.slice lp ll lc).ownBlock = some c → D ≤ c) := fun c hc => ((Lists.row hJ.row).lt c hc).1
    have HPB : Hid (∀ g, pv.ownBlock = some g → ¬ g = Lb ∧ ¬ (Value.slice lp ll lc).ownBlock = some g) := fun g hg => ⟨fun e => by
      obtain ⟨cur, hc⟩ := hpr.shape g hg
      rw [e, hJ.box] at hc
      simp only [Option.some.injEq, Obj.cells.injEq] at hc
      exact absurd hc.2.1 (by decide), fun h => (rows_ne hpr.own (Lists.row hJ.row) (by decide) hg) h⟩
    have HW1 := Lib.hid hW1
    have HJ1 := Lib.hid hJ1
    have HI := Lib.hid ih
    have HPR1 := Lib.hid hpr1
    have HN1 := Lib.hid hn1
    have HK1 := Lib.hid hK1
    obtain ⟨pp, pc, rfl, _⟩ := hpr1.ints (by omega)
    clear hW1 hr hM1 ih hJ hn hpr hJ1 hn1 hpr1 hK1
    go_enter Try.func67, Try.ntmps67
    go_upto_region 0 with fail
    go_cut [10] from 8 (fun v W => v = .bool r ∧ Keeps (fun b => b = w.heap.size) W1 W)
    case first =>
      go_wp2_with fail
      rw [← HW1.out]
      refine hf.mono ?_
      clear hf
      rintro e W2 ⟨rfl, _, hk2⟩
      go_wp2_with fail
      go_meet
      case rel => exact ⟨rfl, hk2⟩
    case rest =>
    obtain ⟨W2, hW2⟩ : ∃ V, V = wc := ⟨_, rfl⟩
    subst hW2
    obtain ⟨hu, hk2⟩ := hcut
    subst hu
    clear hf hmm
    have hs2 := hk2.size
    have hJ2 : FndJ A Pb Lb Ob D p cp cl cc L W2 lp ll lc vs := HJ1.out.keeps' hk2 (fun b hs => by subst hs; exact HNM.out) ⟨hPb, by omega⟩
    have hkw2 : Keeps (fun _ => False) w W2 := HK1.out.trans' hk2 (fun b hb hl => by omega)
    go_upto_if 10 with fail
    go_cut [] from 8 (fun W => FndR A Pb Lb Ob D p cp cl cc (L ++ fnd1 p path x) lp ll lc w W)
    case first =>
      cases r with
      | false =>
        go_wp2_with fail
        go_meet
        case rel =>
          rw [HE1.out]
          simp only [Bool.false_eq_true, if_false, List.append_nil]
          exact ⟨lp, ll, lc, vs, hJ2, hkw2.mono (fun _ h _ => h.elim), fun g hg => .inl hg⟩
      | true =>
        have hd2 : Keeps (fun _ => False) W2 W2.drew := (Keeps.refl _ W2).drew
        obtain ⟨W0, hmk0, hown0, hg0⟩ := run_make_own (P := Try.prog) W2.drew W2.drew.heap.size 50 3 i0 _ 1 Try.underlying50 hi0 hz0 hz1 .i64 .i64 path.length (by rw [hz2]; omega) (by unfold maxLen; omega) (Nat.le_refl _)
        have hmk : (Instr.makeSlice 50 (.int .i64 0) (.int .i64 (path.length : Int))).run Try.prog W2.drew = .ok (.slice (some ⟨W2.heap.size, 0, none⟩) 0 path.length) W0 := hmk0
        have hown0' : W0.ownsRow W2.heap.size 3 1 (.slice (some ⟨W2.heap.size, 0, none⟩) 0 path.length) 0 [] := hown0
        have hk0 : Keeps (fun _ => False) W2 W0 := hd2.trans ((Keeps.refl _ _).grown hg0 (fun k hk => by cases hk))
        have hlt0 := (hown0'.lt W2.heap.size rfl).2
        have hpr2 := HPR1.out.keeps hk2 (fun g hg => ⟨HPR1.out.lt hg, hpn g hg⟩)
        have hpr0 := hpr2.keeps hk0 (fun g hg => ⟨hpr2.lt hg, fun h => h⟩)
        obtain ⟨pp', pc', he', hints⟩ := hpr0.ints (by omega)
        simp only [Value.slice.injEq] at he'
        obtain ⟨rfl, _, rfl⟩ := he'
        have hbx0 := hk0.heap hJ2.box
        have l2 : W2.cell? ⟨Lb, 0, none⟩ = some (.slice lp ll lc) := by simp [World.cell?, hJ2.box]
        have l0 : W0.cell? ⟨Lb, 0, none⟩ = some (.slice lp ll lc) := by simp [World.cell?, hbx0]
        have hrow2 := Lists.row hJ2.row
        have hblk2 : ∀ k, (Value.slice lp ll lc).ownBlock = some k → k ≠ Lb ∧ k < W2.heap.size := fun k hk => ⟨fun e => by have := (hrow2.lt k hk).1; omega, (hrow2.lt k hk).2⟩
        have HB2 := Lib.hid hblk2
        have HJ2 := Lib.hid hJ2
        have HK2 := Lib.hid hkw2
        have HK0 := Lib.hid hk0
        have hlen2 : vs.length ≤ 20000 := by omega
        have hDW : D ≤ W2.heap.size := by have := hkw2.size; omega
        clear hmk0 hown0 hg0 hpr2 hpr0 hJ2 hblk2 hkw2 hd2
        go_wp2_with fail
        go_region_law (first
          | (refine step_fill (by rfl) _ _ _ (by rfl) i0 _ Try.underlying50 hi0 hz0 hz1 hz2 rfl (g := W2.heap.size) (n := path.length) (B := W2.heap.size) (by rfl) pc (by rfl) hints (by omega) hown0' (by omega) ?_; intro fv Wf hfr hfk; obtain ⟨fp, fl, fc, rfl⟩ := row_slice hfr; have hbf := (hfk.block _ (heap_lt hbx0) (by have := heap_lt HJ2.out.box; omega)).trans hbx0; have lf : Wf.cell? ⟨Lb, 0, none⟩ = some (.slice lp ll lc) := (by simp [World.cell?, hbf]); have la : (Wf.alloc (.cells #[.slice fp fl fc] 50)).cell? ⟨Lb, 0, none⟩ = some (.slice lp ll lc) := (World.cell?_alloc_past _ _ _ (heap_lt hbf)).trans lf; have hsf := hfk.size; have hkf : Keeps (fun _ => False) W2 Wf := HK0.out.trans' hfk (fun b hb hl => by omega))
          | (refine step_append_lies _ (by rfl) _ _ _ (by rfl) D TI i5 _ 1 24 Try.underlying43 hi5 hy0 hy1 hy2 rfl (by omega) (.slice lp ll lc) vs.length vs (by rfl) (ownsRow_same hrow2 (fun b hm => (hkf.alloc (.cells #[.slice fp fl fc] TI)).block b (HB2.out b (by simpa using hm)).2 (fun h => h))) ⟨Wf.heap.size, 0, none⟩ 1 1 [.slice fp fl fc] (by rfl) (by rfl) (World.news_of_block (cs := #[.slice fp fl fc]) (t := TI) (fr := (0, 0)) (heap_alloc_new Wf _)) (by simp [Value.oneCell']) (by omega) (by simp only [maxLen]; omega) (by omega) (by simp; omega) (Wf.heap.size + 1) (by simp) ?_; intro gg cap w3 hown3 hgrow3 hat3 hlt3; have hb3 : w3.heap[Lb]? = some (.cells #[.slice lp ll lc] 43 (0, 0)) := (hgrow3.block Lb (by have := heap_lt hbf; simp; omega) (fun e => (HB2.out Lb e.symm).1 rfl)).trans (((Keeps.refl (fun _ => False) Wf).alloc (.cells #[.slice fp fl fc] TI)).heap hbf); have l3 : w3.cell? ⟨Lb, 0, none⟩ = some (.slice lp ll lc) := (by simp [World.cell?, hb3]); have f3 : w3.frozen? ⟨Lb, 0, none⟩ = false := (by simp [World.frozen?, hb3])))
        all_goals go_wp2_with fail
        all_goals
          have hkA := hkf.alloc (.cells #[.slice fp fl fc] TI)
          have hLr := Lists.push (v := .slice fp fl fc) (c := (path.length, path.map vint)) HJ2.out.row (show TI ≠ 3 by decide) hDW hkA (hfr.alloc _) (fun b hb => (hfr.lt b hb).1) hown3 hgrow3
          have hk3 : Keeps (fun c => (Value.slice lp ll lc).ownBlock = some c) W2 w3 := (hkA.mono (S' := fun c => (Value.slice lp ll lc).ownBlock = some c) fun _ h _ => h.elim).grown hgrow3 (fun k hk _ => hk)
          have hkS : Keeps (fun c => c = Lb) w3 (w3.setCell ⟨Lb, 0, none⟩ (.slice (some ⟨gg, 0, none⟩) (vs.length + 1) cap)) := (Keeps.refl (fun c => c = Lb) w3).setCell (p := ⟨Lb, 0, none⟩) (fun _ => rfl) _
          have hk' : Keeps (fun c => c = Lb ∨ (Value.slice lp ll lc).ownBlock = some c) W2 (w3.setCell ⟨Lb, 0, none⟩ (.slice (some ⟨gg, 0, none⟩) (vs.length + 1) cap)) := (hk3.mono (S' := fun c => c = Lb ∨ (Value.slice lp ll lc).ownBlock = some c) fun _ h _ => .inr h).trans' hkS (fun b hb _ => .inl hb)
          go_meet
          case rel =>
            rw [HE1.out]
            simp only [if_true]
            refine ⟨some ⟨gg, 0, none⟩, vs.length + 1, cap, vs ++ [.slice fp fl fc], ⟨?_, ?_, ?_, ?_⟩, (HK2.out.mono (S' := fun c => c = Lb ∨ (Value.slice lp ll lc).ownBlock = some c) fun _ h _ => h.elim).trans hk', fun g hg => ?_⟩
            · exact HJ2.out.pat.keeps hk' (fun b hA hs => hs.elim (fun e => hLb.2 (e ▸ hA)) (fun e => by have := (hrow2.lt b e).1; have := hAD b hA; omega)) (by omega) (fun hs => hs.elim (fun e => hLb.2 (e ▸ hPb)) (fun e => by have := (hrow2.lt _ e).1; omega))
            · rw [heap_set hb3]; rfl
            · exact (hk'.block _ (heap_lt HJ2.out.fn) (fun hs => hs.elim (fun e => hLO e.symm) (fun e => by have := (hrow2.lt _ e).1; omega))).trans HJ2.out.fn
            · have hLS := Lists.keeps hLr hkS (fun b hs hb => by have := (Lists.lo hLr hb).1; omega)
              unfold PathsI
              rw [List.map_append]
              exact hLS
            · have hgg : gg = g := by simpa [Value.ownBlock] using hg
              subst hgg
              rcases hat3 with h1 | h1
              · exact .inl h1
              · right; omega
    case rest =>
    obtain ⟨V, hV⟩ : ∃ V, V = wc := ⟨_, rfl⟩
    subst hV
    obtain ⟨lp1, ll1, lc1, vs1, hJ3, hk3, hg3⟩ := hcut
    have hown : ∀ c, (Value.slice lp ll lc).ownBlock = some c → D ≤ c := HOW.out
    have hApart : ∀ b, A b → ¬ (b = Lb ∨ (Value.slice lp ll lc).ownBlock = some b) := fun b hA hs => hs.elim (fun e => hLb.2 (e ▸ hA)) (fun e => by have := hown _ e; have := hAD b hA; omega)
    have hnV := HN0.out.keeps hk3 hApart (by omega) (hApart b hb)
    have k3 := hnV.c3
    have hxl := hnV.lc
    have hxm := hnV.cm
    have HLen := Lib.hid hnV.kids.len
    have HJ3 := Lib.hid hJ3
    have HK3 := Lib.hid hk3
    have HG3 := Lib.hid hg3
    clear hnV hJ3 hk3 hg3 hJ2 hkw2 hk2 hs2
    go_wp2_with fail
    go_loopg [24] xl (fun m i W => ∃ j : Nat, j + m = xl ∧ i = .int .i64 j ∧ ∃ Lj lpj llj lcj vsj, FndJ A Pb Lb Ob D p cp cl cc Lj W lpj llj lcj vsj ∧ Lj.length + (x.c.drop j).nodes ≤ 10000 ∧ Lj ++ fndK p path j (x.c.drop j) = L ++ fndF p path x ∧ Keeps (fun c => c = Lb ∨ (Value.slice lp ll lc).ownBlock = some c) w W ∧ (∀ g, (Value.slice lpj llj lcj).ownBlock = some g → (Value.slice lp ll lc).ownBlock = some g ∨ w.heap.size ≤ g))
    case atStart => exact ⟨0, by omega, rfl, _, _, _, _, _, HJ3.out, by have h1 := fnd1_len p path x; simp only [List.length_append, Fo.drop]; omega, by rw [fndF_eq, List.append_assoc]; rfl, HK3.out, HG3.out⟩
    case round =>
      obtain ⟨j, hjm, rfl, Lj, lpj, llj, lcj, vsj, hJj, hLn, hLe, hkj, hgj⟩ := hrel
      have hnr := HN0.out.keeps hkj hApart (by omega) (hApart b hb)
      have k3 := hnr.c3
      have HM := Lib.hid hjm
      have HLE := Lib.hid hLe
      have HKJ := Lib.hid hkj
      have HGJ := Lib.hid hgj
      have HJJ := Lib.hid hJj
      by_cases hlt : j < xl
      · obtain ⟨kb, ko, rfl, hkb, hkbs⟩ := hnr.kids.hasAddr (by omega)
        obtain ⟨k1, n1, t1, s1, r1, hdr⟩ := Fo.drop_lt j x.c (by rw [hnr.kids.len]; exact hlt)
        obtain ⟨cp1, cl1, cc1, hn1⟩ := hnr.kids.at_ j hdr hlt
        have hsN : s1.nodes < N := by
          have h1 := Fo.nodes_drop j x.c
          rw [hdr] at h1
          simp only [Fo.nodes] at h1
          omega
        have hwr := hkj.size
        have hprr : Row wr (.slice pp path.length pc) path := HPR.out.keeps hkj (fun g hg => ⟨HPR.out.lt hg, fun hs => hs.elim (HPB.out g hg).1 (HPB.out g hg).2⟩)
        have hlenj : Lj.length + s1.nodes < 10000 := by
          rw [hdr] at hLn
          simp only [Fo.nodes] at hLn
          omega
        have hALL : Hid (∀ (W' : World) (g2 cap2 : Nat), Keeps (fun _ => False) wr W' → Row W' (.slice (some ⟨g2, 0, none⟩) (path.length + 1) cap2) (path ++ [(j : Int)]) → Calls Try.prog 67 #[.pointer (some ⟨kb, ko + j * 4, none⟩), .slice (some ⟨g2, 0, none⟩) (path.length + 1) cap2, .pointer (some ⟨Pb, 0, none⟩), .pointer (some ⟨Lb, 0, none⟩), .pointer (some ⟨Ob, 0, none⟩)] W' fun e w' => e = .returned (.tuple #[]) ∧ FndR A Pb Lb Ob D p cp cl cc (Lj ++ fndF p (path ++ [(j : Int)]) ⟨k1, n1, t1, s1⟩) lpj llj lcj W' w') := Lib.hid fun W' g2 cap2 hk hrow =>
          HI.out (by omega) ⟨k1, n1, t1, s1⟩ (path ++ [(j : Int)]) _ kb (ko + j * 4) cp1 cl1 cc1 Lj lpj llj lcj vsj W' hsN (by simp; omega) hlenj (by have := hk.size; omega) (Nd.kid_small (k := x.k) (n := x.n) (t := x.t) hdr hsm) hkb (hn1.next hk hkbs) hrow (hJj.keeps hk (fun _ h => h.elim) (fun b hA => by have := hAD b hA; omega) (by omega))
        have HD := Lib.hid hdr
        have hj0 : (0 : Int) ≤ (j : Int) := Int.natCast_nonneg _
        have hi1 : (j : Int) < (xl : Int) := by omega
        have hO : wr.cell? ⟨Ob, 0, none⟩ = some (.func (.func 67) #[] #[.pointer (some ⟨Pb, 0, none⟩), .pointer (some ⟨Lb, 0, none⟩), .pointer (some ⟨Ob, 0, none⟩)]) := by simp [World.cell?, hJj.fn]
        have hOA : (wr.alloc (.cells #[.int .i64 (j : Int)] 3)).cell? ⟨Ob, 0, none⟩ = _ := (World.cell?_alloc_past _ _ _ (heap_lt hJj.fn)).trans hO
        have hkA : (wr.alloc (.cells #[.int .i64 (j : Int)] 3)).cell? ⟨b, o + 3, none⟩ = _ := (World.cell?_alloc_past _ _ _ (by show b < _; omega)).trans k3
        have hBO := heap_lt hJj.fn
        have hln2 : Lj.length + s1.nodes + 1 + (x.c.drop (j + 1)).nodes ≤ 10000 := by
          rw [Fo.drop_step hdr]
          rw [hdr] at hLn
          simp only [Fo.nodes] at hLn
          omega
        have HLN := Lib.hid hln2
        clear hdr hn1 hnr hLe hkj hgj hJj hjm hLn hln2 hlenj
        have hpf := hprr.form
        have hkR : Keeps (fun _ => False) wr wr := Keeps.refl _ _
        have HPRR := Lib.hid hprr
        clear hprr
        rcases hpf with ⟨he, rfl⟩ | ⟨g, cap, cur, he, hpos, _, hcap, _⟩
        · simp only [Value.slice.injEq] at he
          obtain ⟨rfl, _, rfl⟩ := he
          go_wp2_with fail
          go_region_law (first
            | (refine step_capped (by rfl) _ _ _ (by rfl) i0 _ Try.underlying50 hi0' hz0 hz1 hz2 rfl [] (by simp) none 0 (by rfl) (HPRR.out.keeps (S := fun _ => False) (by repeat' (first | exact hkR | refine Keeps.drew ?_ | refine Keeps.alloc ?_ _)) (fun g hg => ⟨HPRR.out.lt hg, fun h => h⟩)) (j : Int) wr.heap.size (by rfl) (heap_alloc_new wr _) ?_; intro g2 cap2 w3 hrow3 hlt3 hge3 hk3; have hkw3 : Keeps (fun _ => False) wr w3 := Keeps.trans (w := wr) (by repeat' (first | exact hkR | refine Keeps.drew ?_ | refine Keeps.alloc ?_ _)) hk3; have hO3 := (hkw3.cell (p := ⟨Ob, 0, none⟩) hBO (fun h => h)).trans hO; have k33 := (hkw3.cell (p := ⟨b, o + 3, none⟩) (by show b < _; omega) (fun h => h)).trans k3)
            | ((go_simp; go_at_call 67; refine (hALL.out _ g2 cap2 hkw3 hrow3).mono ?_; rintro e W4 ⟨rfl, hR4⟩)))
          all_goals
            have HR4 := Lib.hid hR4
            have HKW := Lib.hid hkw3
            clear hR4 hkw3 hrow3 hk3 hO3 k33 hO hOA hkA
            go_wp2_with fail
            go_roundg (gk - 1)
            case measure => have := HM.out; omega
            case rel =>
              obtain ⟨lp4, ll4, lc4, vs4, hJ4, hk4, hg4⟩ := HR4.out
              refine ⟨j + 1, by have := HM.out; omega, by go_num, _, lp4, ll4, lc4, vs4, hJ4, ?_, ?_, ?_, fun g' hg' => ?_⟩
              · have h1 : (fndF p ([] ++ [(j : Int)]) ⟨k1, n1, t1, s1⟩).length ≤ s1.nodes + 1 := fndF_len _ _ _
                have h2 := HLN.out
                rw [List.length_append]
                omega
              · rw [← HLE.out, HD.out, fndK_cons, Fo.drop_step HD.out, List.append_assoc]
              · refine (HKJ.out.trans (HKW.out.mono fun _ h _ => h.elim)).trans' hk4 (fun c hc hl => ?_)
                rcases hc with hc | hc
                · exact .inl hc
                · rcases HGJ.out c hc with h1 | h1
                  · exact .inr h1
                  · omega
              · rcases hg4 g' hg' with h1 | h1
                · exact HGJ.out g' h1
                · have := HKW.out.size; exact .inr (by omega)
        · simp only [Value.slice.injEq] at he
          obtain ⟨rfl, _, rfl⟩ := he
          have hp0 : (0 : Int) ≤ (path.length : Int) := Int.natCast_nonneg _
          have hp1 : (path.length : Int) ≤ (pc : Int) := by omega
          go_wp2_with fail
          go_region_law (first
            | (refine step_capped (by rfl) _ _ _ (by rfl) i0 _ Try.underlying50 hi0' hz0 hz1 hz2 rfl path (by omega) (some ⟨g, 0, none⟩) pc (by rfl) (HPRR.out.keeps (S := fun _ => False) (by repeat' (first | exact hkR | refine Keeps.drew ?_ | refine Keeps.alloc ?_ _)) (fun g hg => ⟨HPRR.out.lt hg, fun h => h⟩)) (j : Int) wr.heap.size (by rfl) (heap_alloc_new wr _) ?_; intro g2 cap2 w3 hrow3 hlt3 hge3 hk3; have hkw3 : Keeps (fun _ => False) wr w3 := Keeps.trans (w := wr) (by repeat' (first | exact hkR | refine Keeps.drew ?_ | refine Keeps.alloc ?_ _)) hk3; have hO3 := (hkw3.cell (p := ⟨Ob, 0, none⟩) hBO (fun h => h)).trans hO; have k33 := (hkw3.cell (p := ⟨b, o + 3, none⟩) (by show b < _; omega) (fun h => h)).trans k3)
            | ((go_simp; go_at_call 67; refine (hALL.out _ g2 cap2 hkw3 hrow3).mono ?_; rintro e W4 ⟨rfl, hR4⟩)))
          all_goals
            have HR4 := Lib.hid hR4
            have HKW := Lib.hid hkw3
            clear hR4 hkw3 hrow3 hk3 hO3 k33 hO hOA hkA
            go_wp2_with fail
            go_roundg (gk - 1)
            case measure => have := HM.out; omega
            case rel =>
              obtain ⟨lp4, ll4, lc4, vs4, hJ4, hk4, hg4⟩ := HR4.out
              refine ⟨j + 1, by have := HM.out; omega, by go_num, _, lp4, ll4, lc4, vs4, hJ4, ?_, ?_, ?_, fun g' hg' => ?_⟩
              · have h1 : (fndF p (path ++ [(j : Int)]) ⟨k1, n1, t1, s1⟩).length ≤ s1.nodes + 1 := fndF_len _ _ _
                have h2 := HLN.out
                rw [List.length_append]
                omega
              · rw [← HLE.out, HD.out, fndK_cons, Fo.drop_step HD.out, List.append_assoc]
              · refine (HKJ.out.trans (HKW.out.mono fun _ h _ => h.elim)).trans' hk4 (fun c hc hl => ?_)
                rcases hc with hc | hc
                · exact .inl hc
                · rcases HGJ.out c hc with h1 | h1
                  · exact .inr h1
                  · omega
              · rcases hg4 g' hg' with h1 | h1
                · exact HGJ.out g' h1
                · have := HKW.out.size; exact .inr (by omega)
      · have hdn : x.c.drop j = .nil := Fo.drop_len_le (by have := HLen.out; omega)
        have hfin : Hid (Lj = L ++ fndF p path x) := by
          have h1 := hLe
          rw [hdn] at h1
          have h2 : fndK p path j .nil = [] := rfl
          rw [h2, List.append_nil] at h1
          exact h1
        clear hdn hLe hLn hJj hkj hgj hnr
        go_wp2_with fail
        refine bodyPost_end (v := .tuple #[]) (by simp [results, Try.results67, go_sem]) rfl ?_
        exact ⟨rfl, lpj, llj, lcj, vsj, by rw [← hfin.out]; exact HJJ.out, HKJ.out, HGJ.out⟩
end Go.Proofs.Ytccoihmibkpedaa
