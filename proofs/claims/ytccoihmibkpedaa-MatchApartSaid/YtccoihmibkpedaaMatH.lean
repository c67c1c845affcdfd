/-
  match.Fill: its walk.
-/
import Derived.Test.YtccoihmibkpedaaPkF

import Derived.Test.YtccoihmibkpedaaLay

set_option linter.unusedVariables false

set_option linter.unusedSimpArgs false

namespace Go.Proofs.Ytccoihmibkpedaa

open Go.RowKit

/-- What the map tells after some of the bounds. -/
def KnownF (Mb bb bo : Nat) (acc : List Bind) (W : World) : Prop :=
  ∃ M n, MapAt W Mb M n ∧ n ≤ acc.length ∧ (∀ nm, (M nm).isSome = (bget acc nm).isSome) ∧ ∀ nm y, bget acc nm = some y → ∃ i, acc[i]? = some (nm, y) ∧ M nm = some (.pointer (some ⟨bb, bo + i * 5 + 1, none⟩))
theorem TreeRes.zeroed {w W : World} {n : Int} {R : Nat} (hR : W.heap[R]? = some (.cells (four e0 0 e0 none 0 0) T (0, 0))) (hw : w.heap.size ≤ R) (hk : Keeps (fun _ => False) w W) :
    ∃ W', W' = ((((W.setCell ⟨R, 0, none⟩ (.string e0)).setCell ⟨R, 1, none⟩ (.int .i64 0)).setCell ⟨R, 2, none⟩ (.string e0)).setCell ⟨R, 3, none⟩ (.slice none 0 0)) ∧ W'.cell? ⟨R, 0, none⟩ = some (.string e0) ∧ W'.cell? ⟨R, 1, none⟩ = some (.int .i64 0) ∧ W'.cell? ⟨R, 2, none⟩ = some (.string e0) ∧ W'.cell? ⟨R, 3, none⟩ = some (.slice none 0 0) ∧
      TreeRes w (zeroNd, n) (.returned (.tuple #[tv e0 0 e0 none 0 0, .int .i64 n])) W' ∧ TreeRes w (zeroNd, n) (.returned (.tuple #[tv e0 0 e0 none 0 0, .int .i64 n])) W'.drew := by
  have hbx : ((((W.setCell ⟨R, 0, none⟩ (.string e0)).setCell ⟨R, 1, none⟩ (.int .i64 0)).setCell ⟨R, 2, none⟩ (.string e0)).setCell ⟨R, 3, none⟩ (.slice none 0 0)).heap[R]? = some (.cells (four e0 0 e0 none 0 0) T (0, 0)) := by
    rw [heap_set (heap_set (heap_set (heap_set hR _ _) _ _) _ _) _ _]; rfl
  obtain ⟨q0, q1, q2, q3, _⟩ := box4 hbx
  have hk' := hk.trans' (Keeps.four W R (.string e0) (.int .i64 0) (.string e0) (.slice none 0 0)) (fun x hx hl => by omega)
  exact ⟨_, rfl, q0, q1, q2, q3, TreeRes.zero hk', TreeRes.zero hk'.drew⟩
set_option maxRecDepth 100000 in
set_option maxHeartbeats 6400000 in
theorem Fill_any (p : Nd) (bs : List Bind) (cp bp : Option Addr) (cl cc bl bc : Nat) (A A' : Nat → Prop) (w : World) (h : Tv w A p.k p.t p.c cp cl cc) (h' : BindsAt w A' bs bp bl) (hbc : bl ≤ bc) (hbc2 : bc ≤ 9223372036854775807) (hbl : bl ≤ 17592186044416) :
    Calls Try.prog 16 #[tv p.k p.n p.t cp cl cc, .slice bp bl bc] w (TreeRes w (fillF p bs)) := by
  have hmf : ∀ (fn : Fn) (first cap : Array Value) (w : World), (Instr.makeFunc fn first cap).run Try.prog w = .ok (.func fn first cap) w := fun _ _ _ _ => rfl
  have hmm := @run_makeMap Try.prog
  obtain ⟨W1, hW1⟩ : ∃ W1, W1 = (w.alloc (.cells (four p.k p.n p.t cp cl cc) T)).alloc (.cells (four e0 0 e0 none 0 0) T) := ⟨_, rfl⟩
  have hK : Keeps (fun _ => False) w W1 := by rw [hW1]; exact ((Keeps.refl _ w).alloc _).alloc _
  have hs1 : W1.heap.size = w.heap.size + 2 := by rw [hW1]; simp
  have hb1 : W1.heap[w.heap.size]? = some (.cells (four p.k p.n p.t cp cl cc) T (0, 0)) := by
    rw [hW1]
    exact ((Keeps.refl (fun _ => False) (w.alloc (.cells (four p.k p.n p.t cp cl cc) T))).alloc _).heap (heap_alloc_new _ _)
  have hr1 : W1.heap[w.heap.size + 1]? = some (.cells (four e0 0 e0 none 0 0) T (0, 0)) := by
    rw [hW1]
    have := heap_alloc_new (w.alloc (.cells (four p.k p.n p.t cp cl cc) T)) (.cells (four e0 0 e0 none 0 0) T)
    simpa using this
  have hp1 := h.top.next hK
  have hn1 : NodeAt W1 (fun b => b < w.heap.size + 1) w.heap.size 0 p.k p.n p.t p.c cp cl cc := by
    obtain ⟨r0, r1, r2, r3, _⟩ := box4 hb1
    exact ⟨hp1.size, hp1.lc, hp1.cm, r0, r1, r2, r3, hp1.kids.mono (fun b hb => by omega)⟩
  have hB1 : BindsAt W1 (fun b => b < w.heap.size) bs bp bl := h'.top.next hK
  have hm1 := pMay_any p cp cl cc _ W1 hp1
  obtain ⟨b0, b1, b2, b3, _⟩ := box4 hb1
  obtain ⟨rp, hrp⟩ : ∃ r, pmayF p = r := ⟨_, rfl⟩
  rw [hrp] at hm1
  have HW := Lib.hid hW1
  have HB1 := Lib.hid hb1
  have HR1 := Lib.hid hr1
  have HS1 := Lib.hid hs1
  have HN1 := Lib.hid hn1
  have HBA := Lib.hid hB1
  clear hW1 hb1 hr1 hs1 hn1 hB1 hp1 h h'
  by_cases h1 : rp = 0
  · subst h1
    have hpo := patOK_of hrp
    have hsp : p.small := mayF_small (pmayF_zero hrp).1
    have hvis := (pmayF_zero hrp).2
    have HFF : Hid (fillF p bs = if argsF [] bs then (if wrongF bs (nts p.all) = 0 then (if (fill1 bs p).small then (fill1 bs p, 0) else (zeroNd, 2)) else (zeroNd, wrongF bs (nts p.all))) else (zeroNd, 1)) := by show fillF p bs = _; unfold fillF; rw [if_pos hrp]
    have HVIS := Lib.hid hvis
    have HPO := Lib.hid hpo
    have HSP := Lib.hid hsp
    clear hrp hpo hsp hvis
    go_enter Try.func16, Try.ntmps16
    go_upto_region 1 with fail
    rw [← HW.out]
    go_wp2_with fail
    refine hm1.mono ?_
    clear hm1 b0 b1 b2 b3
    rintro e W ⟨rfl, hk⟩
    obtain ⟨Mb, hMb⟩ : ∃ b, b = W.heap.size := ⟨_, rfl⟩
    obtain ⟨W3, hW3⟩ : ∃ W3, W3 = (W.alloc (.map #[] 0)).alloc (.cells #[.map (some W.heap.size)] 89) := ⟨_, rfl⟩
    have hk3 : Keeps (fun _ => False) W W3 := by rw [hW3]; exact ((Keeps.refl _ _).alloc _).alloc _
    have hs3 : W3.heap.size = Mb + 2 := by rw [hW3, hMb]; simp
    have hKb : W3.heap[Mb + 1]? = some (.cells #[.map (some Mb)] 89 (0, 0)) := by
      rw [hW3, hMb]
      have := heap_alloc_new (W.alloc (.map #[] 0)) (.cells #[.map (some W.heap.size)] 89)
      simpa using this
    have hMp : MapAt W3 Mb noM 0 := by
      rw [hW3, hMb]
      exact (MapAt.made W).keeps ((Keeps.refl (fun _ => False) _).alloc (.cells #[.map (some W.heap.size)] 89)) (fun h => h)
    have hkW3 := hk.trans hk3
    have hMw : w.heap.size + 2 ≤ Mb := by have := hk.size; have := HS1.out; omega
    have HW3 := Lib.hid hW3
    have HMB := Lib.hid hMb
    have HS3 := Lib.hid hs3
    have HKb := Lib.hid hKb
    have HMp := Lib.hid hMp
    have HK13 := Lib.hid hkW3
    clear hW3 hMb hs3 hKb hMp hkW3 hk hk3
    go_upto_region 5 with fail
    rw [← HW3.out, ← HMB.out]
    go_wp2_with fail
    have hlenb : bs.length = bl := HBA.out.len
    go_loopg [26] bl (fun mm i W => ∃ j : Nat, j + mm = bl ∧ i = .int .i64 j ∧ argsF [] bs = argsF (bs.take j) (bs.drop j) ∧ (∃ bb bo, (0 < bl → bp = some ⟨bb, bo, none⟩) ∧ KnownF Mb bb bo (bs.take j) W) ∧ Keeps (fun b => b = Mb) W3 W)
    case atStart =>
      refine ⟨0, by omega, rfl, rfl, ?_, Keeps.refl _ _⟩
      by_cases h0 : 0 < bl
      · obtain ⟨bb, bo, hb, _⟩ := HBA.out.addr h0
        exact ⟨bb, bo, fun _ => hb, noM, 0, HMp.out, by simp, fun nm => by simp [noM, bget], fun nm y hy => by simp [bget] at hy⟩
      · exact ⟨0, 0, fun h => absurd h h0, noM, 0, HMp.out, by simp, fun nm => by simp [noM, bget], fun nm y hy => by simp [bget] at hy⟩
    case round =>
      obtain ⟨j, hjm, rfl, hargs, ⟨bb, bo, hbp, hKf⟩, hk⟩ := hrel
      have HM := Lib.hid hjm
      have HA := Lib.hid hargs
      have HKw := Lib.hid hk
      clear hjm hargs
      have hkw : Keeps (fun b => b = Mb) W1 wr := (HK13.out.mono (S' := fun b => b = Mb) fun _ h _ => h.elim).trans hk
      have hBr := HBA.out.keeps hkw (fun b hb e => by omega)
      have hKbr := (hk.block _ (heap_lt HKb.out) (by omega)).trans HKb.out
      have k0 : wr.cell? ⟨Mb + 1, 0, none⟩ = some (.map (some Mb)) := by simp [World.cell?, hKbr]
      have HKW1 := Lib.hid hkw
      have HKBr := Lib.hid hKbr
      clear hk hkw hKbr
      by_cases hlt : j < bl
      · have hbp := hbp (by omega)
        subst hbp
        obtain ⟨⟨nm, y⟩, he⟩ : ∃ e, bs[j]? = some e := ⟨_, List.getElem?_eq_getElem (by omega)⟩
        obtain ⟨hnm, hc0, hbA, hbb, yp, yl, yc, hyt⟩ := hBr.at_ he
        obtain ⟨M, m, hMr, hml, hMs, hMn⟩ := hKf
        obtain ⟨acc, hacc⟩ : ∃ acc, bs.take j = acc := ⟨_, rfl⟩
        have hdrop : bs.drop j = (nm, y) :: bs.drop (j + 1) := by rw [List.drop_eq_getElem_cons (by omega)]; congr 1; have := List.getElem?_eq_some_iff.1 he; exact this.2
        have htake : bs.take (j + 1) = acc ++ [(nm, y)] := by rw [List.take_add_one, he, hacc]; rfl
        have hstep : argsF [] bs = (arg1 acc (nm, y) && argsF (acc ++ [(nm, y)]) (bs.drop (j + 1))) := by rw [HA.out, hdrop, argsF_cons, hacc]
        rw [hacc] at hml hMs hMn
        have haccl : acc.length = j := by rw [← hacc, List.length_take]; omega
        have hi0 : (0 : Int) ≤ (j : Int) := Int.natCast_nonneg _
        have hi1 : (j : Int) < (bl : Int) := by omega
        obtain ⟨mv, hmv⟩ : ∃ v, M nm = v := ⟨_, rfl⟩
        have hlook := ((MapAt.same (W1 := wr.drew) hMr rfl).look (t := 89) Try.underlying89 (zeroPtr wr.drew) (nm := nm) hnm).1
        have HMVS : Hid (mv.isSome = (bget acc nm).isSome) := by show _ = _; rw [← hmv]; exact hMs nm
        rw [hmv] at hlook
        have HMR := Lib.hid hMr
        have HMS := Lib.hid hMs
        have HMN := Lib.hid hMn
        have HST := Lib.hid hstep
        have HTK := Lib.hid htake
        have HE := Lib.hid he
        have HAC := Lib.hid hacc
        have HACL := Lib.hid haccl
        have HYT := Lib.hid hyt
        have hd0 : Keeps (fun _ => False) wr wr.drew := (Keeps.refl _ wr).drew
        have hres := (HKW1.out.block _ (heap_lt HR1.out) (by omega)).trans HR1.out
        have hKww : Keeps (fun _ => False) w wr := hK.trans' HKW1.out (fun b hb hl => by omega)
        have HRES := Lib.hid hres
        have HKWW := Lib.hid hKww
        clear hMr hMs hMn hdrop htake hstep he hacc haccl hyt hmv hres hKww
        go_wp2_with fail
        go_region
        obtain ⟨r0, r1, r2, r3, f0, f1, f2, f3⟩ := box4 (hd0.heap HRES.out)
        cases mv with
        | some v =>
          have hb : Hid (arg1 acc (nm, y) = false) := by show arg1 _ _ = false; simp only [arg1]; rw [← HMVS.out]; rfl
          obtain ⟨p0, p1, p2, p3, g0, g1, g2, g3⟩ := box4 HRES.out
          go_wp2_with fail
          obtain ⟨W', hW', q0, q1, q2, q3, hT, hT'⟩ := TreeRes.zeroed (n := 1) (w := w) HRES.out (by omega) HKWW.out
          subst hW'
          refine bodyPost_ret (v := .tuple #[tv e0 0 e0 none 0 0, .int .i64 1]) (by simp [results, Try.results16, go_sem, q0, q1, q2, q3]) rfl ?_
          rw [HFF.out, HST.out, hb.out]
          exact hT'
        | none =>
          have hwd := Word_any nm wr.drew hnm
          obtain ⟨v1, hv1⟩ : ∃ v, wordB nm.data.toList = v := ⟨_, rfl⟩
          rw [hv1] at hwd
          have HV1 := Lib.hid hv1
          clear hv1 hlook
          cases v1 with
          | false =>
            have hb : Hid (arg1 acc (nm, y) = false) := by show arg1 _ _ = false; simp only [arg1]; rw [HV1.out, Bool.and_false, Bool.false_and]
            clear r0 r1 r2 r3 f0 f1 f2 f3
            go_wp2_with fail
            refine hwd.mono ?_
            clear hwd
            rintro e W5 ⟨rfl, hk5⟩
            have hres5 := hk5.heap (hd0.heap HRES.out)
            obtain ⟨r0, r1, r2, r3, f0, f1, f2, f3⟩ := box4 hres5
            go_wp2_with fail
            obtain ⟨W', hW', q0, q1, q2, q3, hT, hT'⟩ := TreeRes.zeroed (n := 1) (w := w) hres5 (by omega) ((HKWW.out.trans hd0).trans hk5)
            subst hW'
            refine bodyPost_ret (v := .tuple #[tv e0 0 e0 none 0 0, .int .i64 1]) (by simp [results, Try.results16, go_sem, q0, q1, q2, q3]) rfl ?_
            rw [HFF.out, HST.out, hb.out]
            exact hT
          | true =>
            clear r0 r1 r2 r3 f0 f1 f2 f3
            go_wp2_with fail
            refine hwd.mono ?_
            clear hwd
            rintro e W5 ⟨rfl, hk5⟩
            have hkd5 := hd0.trans hk5
            have hyt5 := HYT.out.next hkd5 hbb
            have y0 := hyt5.c0
            have y1 := hyt5.c1
            have y2 := hyt5.c2
            have y3 := hyt5.c3
            have hma := May_any y yp yl yc _ W5 hyt5.tv
            obtain ⟨ry, hry⟩ : ∃ r, mayF y = r := ⟨_, rfl⟩
            rw [hry] at hma
            have HRY := Lib.hid hry
            have HKD5 := Lib.hid hkd5
            clear hyt5 hry hkd5 hk5
            by_cases hr0 : ry = 0
            · subst hr0
              go_wp2_with fail
              refine hma.mono ?_
              clear hma y0 y1 y2 y3
              rintro e W6 ⟨rfl, hk6⟩
              have hk06 := HKD5.out.trans hk6
              have hm6 := HMR.out.keeps hk06 (fun h => h)
              have hkb6 := hk06.heap HKBr.out
              have k0 : W6.cell? ⟨Mb + 1, 0, none⟩ = some (.map (some Mb)) := by simp [World.cell?, hkb6]
              have n0 := (hk06.cell (p := ⟨bb, bo + j * 5, none⟩) hbb (fun h => h)).trans hc0
              have HK06 := Lib.hid hk06
              have hm6' : MapAt W6.drew Mb M m := MapAt.same hm6 rfl
              clear hm6 hkb6 hk06 hk6
              go_wp2_with fail
              go_still_tail 8, (by kernel_rfl)
              change wpList _ _ _ _ _ W6.drew
              at_mapUpdate
              refine wpList_mapS rfl _ rfl _ _ _ 89 rfl 91 Try.underlying89 Mb m M rfl hm6' (by have := HACL.out; omega) nm (.pointer (some ⟨bb, bo + j * 5 + 1, none⟩)) rfl rfl hnm ?_
              intro W7 hm7 hk7
              go_wp2_with fail
              have hbg : bget acc nm = none := by cases hg : bget acc nm with
                | none => rfl
                | some z => have hmvs := HMVS.out; rw [hg] at hmvs; simp at hmvs
              have hb : arg1 acc (nm, y) = true := by simp only [arg1]; rw [HV1.out, HRY.out, hbg]; rfl
              go_roundg (gk - 1)
              case measure => have := HM.out; omega
              case rel =>
                refine ⟨j + 1, by have := HM.out; omega, by go_num, by rw [HST.out, hb, HTK.out]; rfl, ⟨bb, bo, fun _ => rfl, putM M nm (.pointer (some ⟨bb, bo + j * 5 + 1, none⟩)), m + 1, hm7, by rw [HTK.out]; simp; omega, fun a => ?_, fun a z hz => ?_⟩, (HKw.out.trans' (HK06.out.drew) (fun _ h _ => h.elim)).trans hk7⟩
                · rw [HTK.out, bget_snoc _ _ _ hbg]
                  unfold putM
                  by_cases ha : a = nm
                  · simp [ha]
                  · simp only [if_neg ha]; exact HMS.out a
                · rw [HTK.out, bget_snoc _ _ _ hbg] at hz
                  unfold putM
                  rw [HTK.out]
                  by_cases ha : a = nm
                  · rw [if_pos ha] at hz
                    simp only [Option.some.injEq] at hz
                    subst hz
                    refine ⟨j, ?_, by simp [ha]⟩
                    rw [List.getElem?_append_right (by have := HACL.out; omega), HACL.out, Nat.sub_self, ha]; rfl
                  · rw [if_neg ha] at hz
                    obtain ⟨i, hi, hi2⟩ := HMN.out a z hz
                    refine ⟨i, ?_, by simp only [if_neg ha]; exact hi2⟩
                    rw [List.getElem?_append_left (List.getElem?_eq_some_iff.1 hi).1]; exact hi
            · have hne : (ry != 0) = true := by simpa using hr0
              have hb : Hid (arg1 acc (nm, y) = false) := by show arg1 _ _ = false; simp only [arg1]; rw [HRY.out, show decide (ry = 0) = false by simpa using hr0, Bool.and_false]
              go_wp2_with fail
              refine hma.mono ?_
              clear hma y0 y1 y2 y3
              rintro e W6 ⟨rfl, hk6⟩
              have hres6 := (HKD5.out.trans hk6).heap HRES.out
              obtain ⟨r0, r1, r2, r3, f0, f1, f2, f3⟩ := box4 hres6
              go_wp2_with fail
              obtain ⟨W', hW', q0, q1, q2, q3, hT, hT'⟩ := TreeRes.zeroed (n := 1) (w := w) hres6 (by omega) ((HKWW.out.trans HKD5.out).trans hk6)
              subst hW'
              refine bodyPost_ret (v := .tuple #[tv e0 0 e0 none 0 0, .int .i64 1]) (by simp [results, Try.results16, go_sem, q0, q1, q2, q3]) rfl ?_
              rw [HFF.out, HST.out, hb.out]
              exact hT
      · have hjb : j = bl := by have := HM.out; omega
        subst hjb
        have hall : bs.take j = bs := List.take_of_length_le (by omega)
        have hargs : argsF [] bs = true := by rw [HA.out, hall, List.drop_eq_nil_of_le (by omega)]; rfl
        rw [hall] at hKf
        have HFG : Hid (fillF p bs = if wrongF bs (nts p.all) = 0 then (if (fill1 bs p).small then (fill1 bs p, 0) else (zeroNd, 2)) else (zeroNd, wrongF bs (nts p.all))) := by show fillF p bs = _; rw [HFF.out, if_pos hargs]
        obtain ⟨M, m, hMr, hml, hMs, hMn⟩ := hKf
        have HMR := Lib.hid hMr
        have HMS := Lib.hid hMs
        have HMN := Lib.hid hMn
        have HBR := Lib.hid hBr
        have HBP := Lib.hid hbp
        have HARG := Lib.hid hargs
        have hml' : m ≤ j := by omega
        clear hMr hMs hMn hBr hbp hall hargs hml HA
        obtain ⟨Lk, hLk⟩ : ∃ b, b = wr.heap.size := ⟨_, rfl⟩
        obtain ⟨W8, hW8⟩ : ∃ W8, W8 = (wr.alloc (.cells #[.bool false] 4)).alloc (.cells #[.bool false] 4) := ⟨_, rfl⟩
        have hk8 : Keeps (fun _ => False) wr W8 := by rw [hW8]; exact ((Keeps.refl _ _).alloc _).alloc _
        have hs8 : W8.heap.size = Lk + 2 := by rw [hW8, hLk]; simp
        have hl8 : W8.heap[Lk]? = some (.cells #[.bool false] 4 (0, 0)) := by
          rw [hW8, hLk]
          exact ((Keeps.refl (fun _ => False) (wr.alloc (.cells #[.bool false] 4))).alloc _).heap (heap_alloc_new _ _)
        have hg8 : W8.heap[Lk + 1]? = some (.cells #[.bool false] 4 (0, 0)) := by
          rw [hW8, hLk]
          have := heap_alloc_new (wr.alloc (.cells #[.bool false] 4)) (.cells #[.bool false] 4)
          simpa using this
        have hML : Mb + 2 ≤ Lk := by have := heap_lt HKBr.out; rw [hLk]; omega
        have hnodes : ∀ nm y, bget bs nm = some y → ∃ b o cp cl cc, M nm = some (.pointer (some ⟨b, o, none⟩)) ∧ b < w.heap.size ∧ b < wr.heap.size ∧ NodeAt wr (fun b => b < w.heap.size) b o y.k y.n y.t y.c cp cl cc := fun nm y hy => by
          obtain ⟨i, hi, hM⟩ := HMN.out nm y hy
          have hi' := (List.getElem?_eq_some_iff.1 hi).1
          have hbp := HBP.out (by omega)
          have hB' := HBR.out
          rw [hbp] at hB'
          obtain ⟨_, _, hA1, hb1, cp, cl, cc, hn1⟩ := hB'.at_ hi
          exact ⟨_, _, cp, cl, cc, hM, hA1, hb1, hn1⟩
        have hJ8 : FillJ (fun b => b < w.heap.size) bs (Mb + 1) Mb Lk (Lk + 1) M m (lackB bs []) (wrongB bs []) W8 := by
          refine ⟨hk8.heap HKBr.out, hl8, hg8, HMR.out.keeps hk8 (fun h => h), HMS.out, fun nm y hy => ?_⟩
          obtain ⟨b, o, cp, cl, cc, h1, h2, h3, h4⟩ := hnodes nm y hy
          exact ⟨b, o, cp, cl, cc, h1, h2, Nat.lt_of_lt_of_le h3 hk8.size, h4.next hk8 h3⟩
        have hwM : w.heap.size + 2 ≤ Mb := hMw
        have ht : Tell (fun x => x ∈ p.all) (fun b => b < w.heap.size + 1) (fun b => b = Lk ∨ b = Lk + 1) (fun l W => FillJ (fun b => b < w.heap.size) bs (Mb + 1) Mb Lk (Lk + 1) M m (lackB bs l) (wrongB bs l) W) (fun _ _ => true) 58 #[.pointer (some ⟨Mb + 1, 0, none⟩), .pointer (some ⟨Lk, 0, none⟩), .pointer (some ⟨Lk + 1, 0, none⟩)] :=
          ⟨fun args w => by kernel_rfl, fun b h1 h2 => by omega, fun l W b o k n t c cp cl cc hI _ _ hJ hb hbs hn => (filla_any p.all HPO.out (fun b => b < w.heap.size + 1) (fun b => b < w.heap.size) bs (Mb + 1) Mb Lk (Lk + 1) M m (fun b hb => by omega) (fun b hb => by omega) (by omega) l W b o k n t c cp cl cc hI hJ hb hbs hn).mono fun e W' ⟨h1, h2, h3⟩ => ⟨h1, fun _ => h2, h3⟩⟩
        have hk18 : Keeps (fun b => b = Mb) W1 W8 := HKW1.out.trans' hk8 (fun _ h _ => h.elim)
        have hn8 : NodeAt W8 (fun b => b < w.heap.size + 1) w.heap.size 0 p.k p.n p.t p.c cp cl cc := HN1.out.keeps hk18 (fun b hb e => by omega) (by have := HS1.out; omega) (by omega)
        have he := each_any _ _ _ _ _ _ _ ht (p.c.nodes + 1) p.k p.n p.t p.c w.heap.size 0 cp cl cc [] W8 (by omega) (fun x hx => hx) (by have := small_nodes HSP.out; simpa using this) (by rfl) hJ8 (by show w.heap.size < w.heap.size + 1; omega) (by omega) hn8
        unfold EachT at he
        rw [vis_all _ (fun _ _ => rfl)] at he
        have HW8 := Lib.hid hW8
        have HLK := Lib.hid hLk
        have HK18 := Lib.hid hk18
        have HND := Lib.hid hnodes
        have HK8 := Lib.hid hk8
        have HS8 := Lib.hid hs8
        have HN8 := Lib.hid hn8
        clear hW8 hLk hk18 hnodes hk8 hs8 hn8 ht hJ8 hl8 hg8
        go_upto_region 15 with fail
        rw [← HW8.out, ← HLK.out]
        go_wp2_with fail
        refine he.mono ?_
        clear he
        rintro e W9 ⟨rfl, hJ9, hk9⟩
        have hJ9 : FillJ (fun b => b < w.heap.size) bs (Mb + 1) Mb Lk (Lk + 1) M m (lackB bs p.all) (wrongB bs p.all) W9 := hJ9 trivial
        have hwrong := wrongF_eq (bs := bs) HVIS.out
        have hwk9 : Keeps (fun _ => False) w W9 := (hK.trans' HK18.out (fun b hb hl => by omega)).trans' hk9 (fun b hb hl => by omega)
        have hres9 : W9.heap[w.heap.size + 1]? = some (.cells (four e0 0 e0 none 0 0) T (0, 0)) := (hk9.block _ (by have := HS8.out; omega) (by omega)).trans ((HK18.out.block _ (by have := HS1.out; omega) (by omega)).trans HR1.out)
        obtain ⟨lb, hlb⟩ : ∃ v, lackB bs p.all = v := ⟨_, rfl⟩
        obtain ⟨wb, hwb⟩ : ∃ v, wrongB bs p.all = v := ⟨_, rfl⟩
        rw [hlb, hwb] at hwrong hJ9
        have HLB := Lib.hid hlb
        have HWR := Lib.hid hwrong
        have HWK := Lib.hid hwk9
        have HRES := Lib.hid hres9
        have l0 : W9.cell? ⟨Lk, 0, none⟩ = some (.bool lb) := by simp [World.cell?, hJ9.lack]
        have l1 : W9.cell? ⟨Lk + 1, 0, none⟩ = some (.bool wb) := by simp [World.cell?, hJ9.wrong]
        have k0 : W9.cell? ⟨Mb + 1, 0, none⟩ = some (.map (some Mb)) := by simp [World.cell?, hJ9.box]
        have HJ9 := Lib.hid hJ9
        have hn9 := HN8.out.keeps hk9 (fun b hb e => by omega) (by have := HS8.out; omega) (by omega)
        have HN9 := Lib.hid hn9
        have hs9 := hk9.size
        have HS9 := Lib.hid hs9
        clear hlb hwb hwrong hwk9 hres9 hJ9 hk9 hn9 hs9
        cases lb with
        | true =>
          have hff : Hid (fillF p bs = (zeroNd, 3)) := by show _ = _; rw [HFG.out, HWR.out]; rfl
          obtain ⟨r0, r1, r2, r3, f0, f1, f2, f3⟩ := box4 HRES.out
          go_wp2_with fail
          obtain ⟨W', hW', q0, q1, q2, q3, hT, hT'⟩ := TreeRes.zeroed (n := 3) (w := w) HRES.out (by omega) HWK.out
          subst hW'
          refine bodyPost_ret (v := .tuple #[tv e0 0 e0 none 0 0, .int .i64 3]) (by simp [results, Try.results16, go_sem, q0, q1, q2, q3]) rfl ?_
          rw [hff.out]
          exact hT
        | false => cases wb with
          | true =>
            have hff : Hid (fillF p bs = (zeroNd, 41)) := by show _ = _; rw [HFG.out, HWR.out]; rfl
            obtain ⟨r0, r1, r2, r3, f0, f1, f2, f3⟩ := box4 HRES.out
            go_wp2_with fail
            obtain ⟨W', hW', q0, q1, q2, q3, hT, hT'⟩ := TreeRes.zeroed (n := 41) (w := w) HRES.out (by omega) HWK.out
            subst hW'
            refine bodyPost_ret (v := .tuple #[tv e0 0 e0 none 0 0, .int .i64 41]) (by simp [results, Try.results16, go_sem, q0, q1, q2, q3]) rfl ?_
            rw [hff.out]
            exact hT
          | false =>
            have hff : Hid (fillF p bs = if (fill1 bs p).small then (fill1 bs p, 0) else (zeroNd, 2)) := by show _ = _; rw [HFG.out, HWR.out]; rfl
            obtain ⟨Rb, hRb⟩ : ∃ b, b = W9.heap.size := ⟨_, rfl⟩
            obtain ⟨W10, hW10⟩ : ∃ W10, W10 = W9.alloc (.cells #[.int .i64 0, .int .i64 0] 104) := ⟨_, rfl⟩
            have hk10 : Keeps (fun _ => False) W9 W10 := by rw [hW10]; exact (Keeps.refl _ _).alloc _
            have hs10 : W10.heap.size = Rb + 1 := by rw [hW10, hRb]; simp
            have hr10 : W10.heap[Rb]? = some (.cells #[.int .i64 (⟨0, 0, 0⟩ : Cnt).nodes, .int .i64 (⟨0, 0, 0⟩ : Cnt).bytes] 104 (0, 0)) := by rw [hW10, hRb]; exact heap_alloc_new _ _
            have hLR : Lk + 2 ≤ Rb := by have := HS9.out; have := HS8.out; omega
            have hks : KnownS (fun b => b < w.heap.size + 1) Rb W10 (.map (some Mb)) (some bs) := by
              refine ⟨Mb, M, m, rfl, HJ9.out.map.keeps hk10 (fun h => h), by omega, fun nm y hy => ⟨?_, ?_⟩⟩
              · obtain ⟨i, hi, _⟩ := HMN.out nm y hy
                have hy0 := (argsF_ok bs [] HARG.out (nm, y) (List.mem_of_getElem? hi)).2
                have : y.c.nodes < 1024 := small_nodes (mayF_small hy0)
                exact Nat.lt_trans this (by decide)
              · obtain ⟨b, o, cp, cl, cc, h1, h2, h3, h4⟩ := HJ9.out.node nm y hy
                exact ⟨b, o, cp, cl, cc, h1, by show b < w.heap.size + 1; omega, Nat.lt_of_lt_of_le h3 hk10.size, (h4.next hk10 h3).mono (fun b hb => by omega)⟩
            have hsm := small_nodes HSP.out
            have hal : AllIn (some bs) p.k p.n p.t p.c := lack_all HLB.out
            have hla := lay_any (fun b => b < w.heap.size + 1) Rb (fun b hb => by omega) (p.c.nodes + 2001) (by omega) (some bs) (.map (some Mb)) p.k p.n p.t p.c w.heap.size 0 cp cl cc 1 ⟨0, 0, 0⟩ W10 (by show p.c.nodes + 2000 < _; omega) hal hks (by show w.heap.size < w.heap.size + 1; omega) (by omega) (HN9.out.next hk10 (by omega)) hr10 (by constructor <;> decide) (by omega) (by omega)
            have k0 : W10.cell? ⟨Mb + 1, 0, none⟩ = some (.map (some Mb)) := by simp [World.cell?, hk10.heap HJ9.out.box]
            have HW10 := Lib.hid hW10
            have HRB := Lib.hid hRb
            have HR10 := Lib.hid hr10
            have HK10 := Lib.hid hk10
            have HS10 := Lib.hid hs10
            have HKS := Lib.hid hks
            clear hW10 hRb hr10 hk10 hs10 hks hal
            go_upto_region 21 with fail
            rw [← HW10.out, ← HRB.out]
            go_wp2_with fail
            refine hla.mono ?_
            clear hla
            simp only [fl]
            rintro e W11 ⟨hk11, hres⟩
            obtain ⟨v, hv⟩ : ∃ v, fill1 bs p = v := ⟨_, rfl⟩
            have hv' : fill1 bs ⟨p.k, p.n, p.t, p.c⟩ = v := hv
            rw [hv'] at hres
            have hsz := (fl_szok (m := some bs) (k := p.k) (n := p.n) (t := p.t) (c := p.c) HKS.out HN1.out.size)
            simp only [fl] at hsz
            rw [hv'] at hsz
            have hff' : Hid (fillF p bs = if v.small then (v, 0) else (zeroNd, 2)) := by show _ = _; rw [hff.out, hv]
            have hres11 : W11.heap[w.heap.size + 1]? = some (.cells (four e0 0 e0 none 0 0) T (0, 0)) := (hk11.block _ (by have := HS10.out; omega) (by omega)).trans (HK10.out.heap HRES.out)
            have hwk11 := (HWK.out.trans HK10.out).trans' hk11 (fun b hb hl => by omega)
            have hs11 := hk11.size
            clear hv hv' hk11
            by_cases hsv : v.small
            · have hw := wlk1_small v hsv
              rcases hres with ⟨_, cp7, cl7, cc7, bs7, rfl, ho, hn, _⟩ | ⟨hc, _⟩
              · have hff2 : Hid (fillF p bs = (v, 0)) := by show _ = _; rw [hff'.out, if_pos hsv]
                clear hff hff' hw hsv
                obtain ⟨W12, hW12⟩ : ∃ W12, W12 = W11.alloc (.cells (four v.k v.n v.t cp7 cl7 cc7) T) := ⟨_, rfl⟩
                have hk12 : Keeps (fun _ => False) W11 W12 := by rw [hW12]; exact (Keeps.refl _ _).alloc _
                have hb12 : W12.heap[W11.heap.size]? = some (.cells (four v.k v.n v.t cp7 cl7 cc7) T (0, 0)) := by rw [hW12]; exact heap_alloc_new _ _
                obtain ⟨z0, z1, z2, z3, _⟩ := box4 hb12
                obtain ⟨r0, r1, r2, r3, f0, f1, f2, f3⟩ := box4 (hk12.heap hres11)
                have HW12 := Lib.hid hW12
                clear hW12 hb12
                go_upto_region 22 with fail
                change Code.wp _ _ _ _ (W11.alloc (.cells (four v.k v.n v.t cp7 cl7 cc7) T))
                rw [← HW12.out]
                go_wp2_with fail
                have hw4 := Keeps.four W12 (w.heap.size + 1) (.string v.k) (.int .i64 v.n) (.string v.t) (.slice cp7 cl7 cc7)
                have hbx : (((((W12.setCell ⟨w.heap.size + 1, 0, none⟩ (.string v.k)).setCell ⟨w.heap.size + 1, 1, none⟩ (.int .i64 v.n)).setCell ⟨w.heap.size + 1, 2, none⟩ (.string v.t)).setCell ⟨w.heap.size + 1, 3, none⟩ (.slice cp7 cl7 cc7))).heap[w.heap.size + 1]? = some (.cells (four v.k v.n v.t cp7 cl7 cc7) T (0, 0)) := by
                  rw [heap_set (heap_set (heap_set (heap_set (hk12.heap hres11) _ _) _ _) _ _) _ _]; rfl
                obtain ⟨q0, q1, q2, q3, _⟩ := box4 hbx
                refine bodyPost_ret (v := .tuple #[tv v.k v.n v.t cp7 cl7 cc7, .int .i64 0]) (by simp [results, Try.results16, go_sem, q0, q1, q2, q3]) rfl ?_
                rw [hff2.out]
                have hwk := hwk11.trans hk12
                have hs10 := HS10.out
                have hs12 := hk12.size
                exact ⟨cp7, cl7, cc7, bs7, rfl, (ho.keeps hk12 (fun z hz => ⟨hn.hi z hz, fun h => h⟩)).keeps hw4 (fun z hz => ⟨Nat.lt_of_lt_of_le (hn.hi z hz) hk12.size, fun e => by have := hn.lo z hz; omega⟩),
                  ⟨fun z hz => by have := hn.lo z hz; omega, fun z hz => by have h1 := hn.hi z hz; have h2 := hw4.size; omega, hn.nodup⟩, hsz, hwk.trans' hw4 (fun b hb hl => by omega)⟩
              · rw [hw] at hc; exact absurd hc (by simp)
            · have hw := wlk1_great v hsv
              rcases hres with ⟨hc, _⟩ | ⟨_, rfl⟩
              · rw [hw] at hc; exact absurd hc (by simp)
              · have hff2 : Hid (fillF p bs = (zeroNd, 2)) := by show _ = _; rw [hff'.out, if_neg hsv]
                clear hff hff' hw hsv
                obtain ⟨W12, hW12⟩ : ∃ W12, W12 = W11.alloc (.cells (four e0 0 e0 none 0 0) T) := ⟨_, rfl⟩
                have hk12 : Keeps (fun _ => False) W11 W12 := by rw [hW12]; exact (Keeps.refl _ _).alloc _
                obtain ⟨r0, r1, r2, r3, f0, f1, f2, f3⟩ := box4 (hk12.heap hres11)
                have HW12 := Lib.hid hW12
                clear hW12
                go_upto_region 22 with fail
                change Code.wp _ _ _ _ (W11.alloc (.cells (four e0 0 e0 none 0 0) T))
                rw [← HW12.out]
                go_wp2_with fail
                obtain ⟨W', hW', q0, q1, q2, q3, hT, hT'⟩ := TreeRes.zeroed (n := 2) (w := w) (hk12.heap hres11) (by omega) (hwk11.trans hk12)
                subst hW'
                refine bodyPost_ret (v := .tuple #[tv e0 0 e0 none 0 0, .int .i64 2]) (by simp [results, Try.results16, go_sem, q0, q1, q2, q3]) rfl ?_
                rw [hff2.out]
                exact hT
  · have hne : (rp != 0) = true := by simpa using h1
    have hff : Hid (fillF p bs = (zeroNd, rp)) := by show fillF p bs = _; unfold fillF; rw [if_neg (by rw [hrp]; exact h1), hrp]
    clear hrp
    go_enter Try.func16, Try.ntmps16
    go_upto_region 1 with fail
    rw [← HW.out]
    go_wp2_with fail
    refine hm1.mono ?_
    clear hm1 b0 b1 b2 b3
    rintro e W ⟨rfl, hk⟩
    have hres := hk.heap HR1.out
    obtain ⟨r0, r1, r2, r3, f0, f1, f2, f3⟩ := box4 hres
    go_wp2_with fail
    obtain ⟨W', hW', q0, q1, q2, q3, hT, hT'⟩ := TreeRes.zeroed (n := rp) (w := w) hres (by omega) (hK.trans hk)
    subst hW'
    refine bodyPost_ret (v := .tuple #[tv e0 0 e0 none 0 0, .int .i64 rp]) (by simp [results, Try.results16, go_sem, q0, q1, q2, q3]) rfl ?_
    rw [hff.out]
    exact hT
end Go.Proofs.Ytccoihmibkpedaa
