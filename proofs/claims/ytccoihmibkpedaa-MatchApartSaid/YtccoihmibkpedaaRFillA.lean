/-
  espalierref24.Fill: its walk.
-/
import Derived.Test.YtccoihmibkpedaaRGreatN

import Derived.Test.YtccoihmibkpedaaPkG

set_option linter.unusedVariables false

set_option linter.unusedSimpArgs false

namespace Go.Proofs.Ytccoihmibkpedaa

open Go.RowKit

attribute [local go_sem] Oper.semAt_some

/-- What the reference's Fill leaves: it lies in new memory and in what was handed in. -/
def RFillX (A : Nat → Prop) (r : Nd × Int) (w : World) (e : Ending) (w' : World) : Prop :=
  ∃ cp cl cc, e = .returned (.tuple #[tv r.1.k r.1.n r.1.t cp cl cc, .int .i64 r.2]) ∧ Tv w' (fun b => A b ∨ (w.heap.size ≤ b ∧ b < w'.heap.size)) r.1.k r.1.t r.1.c cp cl cc ∧ Keeps (fun _ => False) w w'
def RFillR (r : Nd × Int) (w : World) (e : Ending) (w' : World) : Prop :=
  ∃ cp cl cc, e = .returned (.tuple #[tv r.1.k r.1.n r.1.t cp cl cc, .int .i64 r.2]) ∧ Tv w' (fun b => b < w'.heap.size) r.1.k r.1.t r.1.c cp cl cc ∧ Keeps (fun _ => False) w w'
theorem RFillX.drewN {A : Nat → Prop} {r : Nd × Int} {w : World} {e : Ending} {w' : World} (h : RFillX A r w e w') (n : Nat) : RFillX A r w e (w'.drewN n) := by
  obtain ⟨cp, cl, cc, he, ht, hk⟩ := h
  have hd := (Keeps.refl (fun _ => False) w').drewN n
  exact ⟨cp, cl, cc, he, (ht.keeps hd (fun _ _ h => h)).mono (fun b hb => hb.imp id fun h => ⟨h.1, Nat.lt_of_lt_of_le h.2 hd.size⟩), hk.drewN n⟩
theorem RFillX.alloc {A : Nat → Prop} {r : Nd × Int} {w : World} {e : Ending} {w' : World} (h : RFillX A r w e w') (o : Obj) : RFillX A r w e (w'.alloc o) := by
  obtain ⟨cp, cl, cc, he, ht, hk⟩ := h
  have hd := (Keeps.refl (fun _ => False) w').alloc o
  exact ⟨cp, cl, cc, he, (ht.keeps hd (fun _ _ h => h)).mono (fun b hb => hb.imp id fun h => ⟨h.1, Nat.lt_of_lt_of_le h.2 hd.size⟩), hk.alloc o⟩
abbrev set4z (W : World) (R : Nat) (y : Nd) (cp : Option Addr) (cl cc : Nat) : World := (((W.setCell ⟨R, 0, none⟩ (.string y.k)).setCell ⟨R, 1, none⟩ (.int .i64 y.n)).setCell ⟨R, 2, none⟩ (.string y.t)).setCell ⟨R, 3, none⟩ (.slice cp cl cc)
theorem fill_end {w W : World} {R : Nat} {y : Nd} {code : Int} {cp : Option Addr} {cl cc : Nat} {A : Nat → Prop} (hR : W.heap[R]? = some (.cells (four e0 0 e0 none 0 0) T (0, 0))) (hw : w.heap.size ≤ R) (hk : Keeps (fun _ => False) w W) (ht : Tv W A y.k y.t y.c cp cl cc) (hA : ∀ b, A b → b ≠ R) {A' : Nat → Prop} (hAA : ∀ b, A b → A' b ∨ (w.heap.size ≤ b ∧ b < W.heap.size)) :
    ((set4z W R y cp cl cc).cell? ⟨R, 0, none⟩ = some (.string y.k) ∧ (set4z W R y cp cl cc).cell? ⟨R, 1, none⟩ = some (.int .i64 y.n) ∧ (set4z W R y cp cl cc).cell? ⟨R, 2, none⟩ = some (.string y.t) ∧ (set4z W R y cp cl cc).cell? ⟨R, 3, none⟩ = some (.slice cp cl cc)) ∧
    RFillX A' (y, code) w (.returned (.tuple #[tv y.k y.n y.t cp cl cc, .int .i64 code])) (set4z W R y cp cl cc) := by
  have hbx : (set4z W R y cp cl cc).heap[R]? = some (.cells (four y.k y.n y.t cp cl cc) T (0, 0)) := by
    rw [heap_set (heap_set (heap_set (heap_set hR _ _) _ _) _ _) _ _]; rfl
  obtain ⟨q0, q1, q2, q3, _⟩ := box4 hbx
  have h4 := Keeps.four W R (.string y.k) (.int .i64 y.n) (.string y.t) (.slice cp cl cc)
  exact ⟨⟨q0, q1, q2, q3⟩, cp, cl, cc, rfl, (ht.keeps h4 (fun b hb e => hA b hb e)).mono (fun b hb => (hAA b hb).imp id fun h => ⟨h.1, Nat.lt_of_lt_of_le h.2 h4.size⟩), hk.trans' h4 (fun x hx hl => by omega)⟩
theorem zeroTv (W : World) : Tv W (fun _ => False) zeroNd.k zeroNd.t zeroNd.c none 0 0 := ⟨⟨by decide, by decide⟩, Nat.le_refl _, by omega, rfl⟩
theorem args_step {bs : List Bind} {j : Nat} {e : Bind} (h : bs[j]? = some e) : argsF (bs.take j) (bs.drop j) = (arg1 (bs.take j) e && argsF (bs.take (j + 1)) (bs.drop (j + 1))) := by
  rw [List.drop_eq_getElem_cons (List.getElem?_eq_some_iff.1 h).1, (List.getElem?_eq_some_iff.1 h).2, argsF_cons, List.take_add_one, h]
  rfl
set_option maxRecDepth 100000 in
set_option maxHeartbeats 6400000 in
theorem rFillX_any (p : Nd) (bs : List Bind) (cp bp : Option Addr) (cl cc bl bc : Nat) (A A' : Nat → Prop) (w : World) (h : Tv w A p.k p.t p.c cp cl cc) (hB : BindsAt w A' bs bp bl) (hbc : bl ≤ bc) (hbc2 : bc ≤ 9223372036854775807) (hA' : ∀ b, A' b → b < w.heap.size) :
    Calls Try.prog 17 #[tv p.k p.n p.t cp cl cc, .slice bp bl bc] w (RFillX A' (fillF p bs) w) := by
  obtain ⟨Wp, hWp⟩ : ∃ W1, W1 = w.alloc (.cells (four p.k p.n p.t cp cl cc) T) := ⟨_, rfl⟩
  obtain ⟨W1, hW1⟩ : ∃ W1, W1 = Wp.alloc (.cells (four e0 0 e0 none 0 0) T) := ⟨_, rfl⟩
  have hKp : Keeps (fun _ => False) w Wp := by rw [hWp]; exact (Keeps.refl _ w).alloc _
  have hK1 : Keeps (fun _ => False) Wp W1 := by rw [hW1]; exact (Keeps.refl _ Wp).alloc _
  have hK := hKp.trans hK1
  have hsp : Wp.heap.size = w.heap.size + 1 := by rw [hWp]; simp
  have hb1 : W1.heap[w.heap.size]? = some (.cells (four p.k p.n p.t cp cl cc) T (0, 0)) := by
    refine hK1.heap ?_
    rw [hWp]; exact heap_alloc_new _ _
  have hb2 : W1.heap[w.heap.size + 1]? = some (.cells (four e0 0 e0 none 0 0) T (0, 0)) := by rw [hW1, ← hsp]; exact heap_alloc_new _ _
  have hp1 : Tv W1 (fun b => b < w.heap.size) p.k p.t p.c cp cl cc := h.top.next hK
  have hB1 : BindsAt W1 A' bs bp bl := hB.next hK
  have HA' := Lib.hid hA'
  clear hA'
  have hbl : bs.length = bl := hB.len
  have hz := rPMay_any p cp cl cc _ W1 hp1
  obtain ⟨rp, hrp⟩ : ∃ r, pmayF p = r := ⟨_, rfl⟩
  rw [hrp] at hz
  have HRP := Lib.hid hrp
  obtain ⟨c0, c1, c2, c3, _⟩ := box4 hb1
  have HW : Hid (W1 = (w.alloc (.cells (four p.k p.n p.t cp cl cc) T)).alloc (.cells (four e0 0 e0 none 0 0) T)) := Lib.hid (by rw [hW1, hWp])
  have HB1 := Lib.hid hb1
  have HB2 := Lib.hid hb2
  have HP1 := Lib.hid hp1
  have HBB := Lib.hid hB1
  have HBL := Lib.hid hbl
  have HKK := Lib.hid hK
  -- an ending without a tree
  have hzero : ∀ W', Keeps (fun _ => False) W1 W' → ∀ code, fillF p bs = (zeroNd, code) → (((set4z W' (w.heap.size + 1) zeroNd none 0 0).cell? ⟨w.heap.size + 1, 0, none⟩ = some (.string e0) ∧ (set4z W' (w.heap.size + 1) zeroNd none 0 0).cell? ⟨w.heap.size + 1, 1, none⟩ = some (.int .i64 0) ∧ (set4z W' (w.heap.size + 1) zeroNd none 0 0).cell? ⟨w.heap.size + 1, 2, none⟩ = some (.string e0) ∧ (set4z W' (w.heap.size + 1) zeroNd none 0 0).cell? ⟨w.heap.size + 1, 3, none⟩ = some (.slice none 0 0)) ∧
      RFillX A' (fillF p bs) w (.returned (.tuple #[tv e0 0 e0 none 0 0, .int .i64 code])) (set4z W' (w.heap.size + 1) zeroNd none 0 0)) := fun W' hk code hf => by
    rw [hf]
    exact fill_end (y := zeroNd) (hk.heap hb2) (by omega) (hK.trans hk) (zeroTv W') (fun b hb => hb.elim) (fun b hb => hb.elim)
  have HZERO := Lib.hid hzero
  have hres : ∀ W', Keeps (fun _ => False) W1 W' → W'.cell? ⟨w.heap.size + 1, 0, none⟩ = some (.string e0) ∧ W'.cell? ⟨w.heap.size + 1, 1, none⟩ = some (.int .i64 0) ∧ W'.cell? ⟨w.heap.size + 1, 2, none⟩ = some (.string e0) ∧ W'.cell? ⟨w.heap.size + 1, 3, none⟩ = some (.slice none 0 0) ∧ W'.frozen? ⟨w.heap.size + 1, 0, none⟩ = false ∧ W'.frozen? ⟨w.heap.size + 1, 1, none⟩ = false ∧ W'.frozen? ⟨w.heap.size + 1, 2, none⟩ = false ∧ W'.frozen? ⟨w.heap.size + 1, 3, none⟩ = false := fun W' hk => box4 (hk.heap hb2)
  have HRES := Lib.hid hres
  clear hW1 hWp hb1 hb2 hp1 hrp h hB hB1 hbl hsp hKp hK1 hzero hres hK
  go_enter Try.func17, Try.ntmps17
  go_upto_region 1 with fail
  rw [← HW.out]
  go_wp2_with fail
  refine hz.mono ?_
  clear hz c0 c1 c2 c3
  rintro e W2 ⟨rfl, hk2⟩
  by_cases h1 : rp = 0
  · subst h1
    have HK2 := Lib.hid hk2
    clear hk2
    go_wp2_with fail
    go_loopg [7] bl (fun m i W => ∃ j : Nat, j + m = bl ∧ i = .int .i64 j ∧ argsF [] bs = argsF (bs.take j) (bs.drop j) ∧ Keeps (fun _ => False) W1 W)
    case atStart => exact ⟨0, by omega, rfl, rfl, HK2.out⟩
    case round =>
      obtain ⟨j, hjm, rfl, har, hkr⟩ := hrel
      have hj0 : (0 : Int) ≤ (j : Int) := Int.natCast_nonneg _
      have HJ := Lib.hid hjm
      have HA := Lib.hid har
      have HKR := Lib.hid hkr
      clear hjm har hkr
      by_cases hlt : j < bl
      · obtain ⟨⟨nm, y⟩, he⟩ : ∃ e, bs[j]? = some e := ⟨_, List.getElem?_eq_getElem (by have := HBL.out; omega)⟩
        obtain ⟨bb, bo, rfl, _, _⟩ := HBB.out.addr (by omega)
        obtain ⟨hnms, n0, _, hbb, yp, yl, yc, hN⟩ := (HBB.out.next HKR.out).at_ he
        have hi1 : (j : Int) < (bl : Int) := by omega
        have hst := args_step he
        rw [← HA.out] at hst
        have HST := Lib.hid hst
        have HE := Lib.hid he
        have hz := rWord_any nm wr hnms
        obtain ⟨wv, hwv⟩ : ∃ v, wordB nm.data.toList = v := ⟨_, rfl⟩
        rw [hwv] at hz
        have HWV := Lib.hid hwv
        have HN := Lib.hid hN
        clear hst he hwv hN
        go_wp2_with fail
        refine hz.mono ?_
        clear hz n0
        rintro e W4 ⟨rfl, hk4⟩
        have hN4 := HN.out.next hk4 hbb
        have hz := rMay_any y yp yl yc _ W4 hN4.tv
        obtain ⟨ry, hry⟩ : ∃ r, mayF y = r := ⟨_, rfl⟩
        rw [hry] at hz
        have HRY := Lib.hid hry
        have y0 := hN4.c0
        have y1 := hN4.c1
        have y2 := hN4.c2
        have y3 := hN4.c3
        have HK4 := Lib.hid (HKR.out.trans hk4)
        clear hry hN4 hk4
        go_wp2_with fail
        refine hz.mono ?_
        clear hz y0 y1 y2 y3
        rintro e W5 ⟨rfl, hk5⟩
        have HK5 := Lib.hid (HK4.out.trans hk5)
        clear hk5
        have hbad : arg1 (bs.take j) (nm, y) = false → fillF p bs = (zeroNd, 1) := fun h => by
          have : argsF [] bs = false := by rw [HST.out, h]; rfl
          unfold fillF
          rw [if_pos HRP.out, this]
          rfl
        have HBAD := Lib.hid hbad
        clear hbad
        by_cases hgood : wv = true ∧ ry = 0
        · obtain ⟨rfl, rfl⟩ := hgood
          obtain ⟨V, hV⟩ : ∃ V, V = W5 := ⟨_, rfl⟩
          subst hV
          have hbg : Hid (arg1 (bs.take j) (nm, y) = !(bget (bs.take j) nm).isSome) := by
            show _ = _
            unfold arg1
            simp only [HWV.out, HRY.out]
            simp
          go_wp2_with fail
          go_loopg [10] j (fun m i W => ∃ q : Nat, q + m = j ∧ i = .int .i64 q ∧ bget (bs.take j) nm = bget ((bs.take j).drop q) nm ∧ Keeps (fun _ => False) V W)
          case atStart => exact ⟨0, by omega, rfl, rfl, Keeps.refl _ _⟩
          case round =>
            obtain ⟨q, hqm, rfl, hbq, hkq⟩ := hrel
            have hq0 : (0 : Int) ≤ (q : Int) := Int.natCast_nonneg _
            have HQ := Lib.hid hqm
            have HBQ := Lib.hid hbq
            have HKQ := Lib.hid (HK5.out.trans hkq)
            have HKQ0 := Lib.hid hkq
            clear hqm hbq hkq
            by_cases hqj : q < j
            · obtain ⟨⟨nm2, y2⟩, he2⟩ : ∃ e, bs[q]? = some e := ⟨_, List.getElem?_eq_getElem (by have := HBL.out; omega)⟩
              obtain ⟨_, m0, _⟩ := (HBB.out.next HKQ.out).at_ he2
              obtain ⟨_, n0, _⟩ := (HBB.out.next HKQ.out).at_ HE.out
              have hq1 : (q : Int) < (j : Int) := by omega
              have hq2 : (q : Int) < (bl : Int) := by omega
              have hd : Hid (bget ((bs.take j).drop q) nm = if nm2 = nm then some y2 else bget ((bs.take j).drop (q + 1)) nm) := by
                show _ = _
                have hl : q < (bs.take j).length := by rw [List.length_take]; have := HBL.out; omega
                have he3 : (bs.take j)[q]? = some (nm2, y2) := by rw [List.getElem?_take, if_pos hqj]; exact he2
                rw [List.drop_eq_getElem_cons hl, (List.getElem?_eq_some_iff.1 he3).2, bget_cons]
              clear he2
              by_cases hnn : nm2 = nm
              · subst hnn
                have hf := HBAD.out (by rw [hbg.out, HBQ.out, hd.out, if_pos rfl]; rfl)
                have HF := Lib.hid hf
                clear hf
                have HZD := Lib.hid (fun d => HZERO.out (wr.drewN d) (HKQ.out.drewN d) 1 HF.out)
                obtain ⟨r0, r1, r2, r3, g0, g1, g2, g3⟩ := HRES.out wr HKQ.out
                go_wp2_with fail
                go_quiet (fail)
                go_wp2_with fail
                have z0 := fun d => (HZD.out d).1.1
                have z1 := fun d => (HZD.out d).1.2.1
                have z2 := fun d => (HZD.out d).1.2.2.1
                have z3 := fun d => (HZD.out d).1.2.2.2
                refine bodyPost_ret (v := .tuple #[tv e0 0 e0 none 0 0, .int .i64 1]) (by simp [results, Try.results17, go_sem, z0, z1, z2, z3]) rfl ?_
                exact (HZD.out _).2
              · have z := txt_ne hnn
                have HG : Hid (bget (bs.take j) nm = bget ((bs.take j).drop (q + 1)) nm) := by show _ = _; rw [HBQ.out, hd.out, if_neg hnn]
                clear hnn hd
                go_wp2_with fail
                go_quiet (fail)
                go_wp2_with fail
                go_roundg (gk - 1)
                case measure => have := HQ.out; omega
                case rel => exact ⟨q + 1, by have := HQ.out; omega, by go_num, HG.out, HKQ0.out.drewN _⟩
            · have hnone : bget (bs.take j) nm = none := by
                rw [HBQ.out, List.drop_eq_nil_of_le (by rw [List.length_take]; omega)]
                rfl
              have HNX : Hid (argsF [] bs = argsF (bs.take (j + 1)) (bs.drop (j + 1))) := by show _ = _; rw [HST.out, hbg.out, hnone]; rfl
              clear hnone
              go_wp2_with fail
              go_roundg (bl - (j + 1))
              case measure => have := HJ.out; omega
              case rel => exact ⟨j + 1, by omega, by go_num, HNX.out, HKQ.out⟩
        · have hfb : arg1 (bs.take j) (nm, y) = false := by
            unfold arg1
            simp only [HWV.out, HRY.out]
            cases wv with
            | false => simp
            | true =>
              have : ¬ ry = 0 := fun h => hgood ⟨rfl, h⟩
              simp [this]
          have HF := Lib.hid (HBAD.out hfb)
          obtain ⟨⟨z0, z1, z2, z3⟩, hfin⟩ := HZERO.out W5 HK5.out 1 HF.out
          obtain ⟨r0, r1, r2, r3, g0, g1, g2, g3⟩ := HRES.out W5 HK5.out
          have HFIN := Lib.hid hfin
          clear hfin hfb
          cases wv with
          | false =>
            clear hgood
            go_wp2_with fail
            refine bodyPost_ret (v := .tuple #[tv e0 0 e0 none 0 0, .int .i64 1]) (by simp [results, Try.results17, go_sem, z0, z1, z2, z3]) rfl ?_
            exact HFIN.out
          | true =>
            have hne : (ry != 0) = true := by
              have : ¬ ry = 0 := fun h => hgood ⟨rfl, h⟩
              simpa using this
            clear hgood
            go_wp2_with fail
            refine bodyPost_ret (v := .tuple #[tv e0 0 e0 none 0 0, .int .i64 1]) (by simp [results, Try.results17, go_sem, z0, z1, z2, z3]) rfl ?_
            exact HFIN.out
      · have harg : argsF [] bs = true := by
          rw [HA.out, List.drop_eq_nil_of_le (by have := HBL.out; omega)]
          rfl
        have hsm : ∀ e ∈ bs, e.2.small := fun e he => mayF_small (argsF_ok bs [] harg e he).2
        have HARG := Lib.hid harg
        have HSM := Lib.hid hsm
        obtain ⟨V, hV⟩ : ∃ V, V = wr := ⟨_, rfl⟩
        subst hV
        have hz := rWrong_any p bs cp bp cl cc bl bc _ _ V (HP1.out.next HKR.out) (HBB.out.next HKR.out) hbc hbc2 HRP.out
        obtain ⟨wr9, hwr⟩ : ∃ r, wrongF bs (nts p.all) = r := ⟨_, rfl⟩
        rw [hwr] at hz
        have HWR := Lib.hid hwr
        obtain ⟨c0, c1, c2, c3, _⟩ := box4 (HKR.out.heap HB1.out)
        clear harg hsm hwr HA HJ
        go_wp2_with fail
        refine hz.mono ?_
        clear hz c0 c1 c2 c3
        rintro e W4 ⟨rfl, hk4⟩
        have HK4 := Lib.hid (HKR.out.trans hk4)
        clear hk4
        by_cases hw0 : wr9 = 0
        · subst hw0
          have hsz := HK4.out.size
          have hsz0 := HKK.out.size
          have hz := rgreat_any bs HSM.out bp bl bc hbc hbc2 (p.c.nodes + 1) p.k p.n p.t p.c (fun b => b < w.heap.size) A' cp cl cc 1 ⟨0, 0, 0⟩ W4 (by omega) (HP1.out.next HK4.out) (HBB.out.next HK4.out) (fun b hb => by have := HA'.out b hb; have := HK4.out.size; have := HKK.out.size; omega) ⟨Int.le_refl 0, Int.le_refl 0, Int.le_refl 0⟩ rfl (by omega) (by decide)
          have hgl := great1_law bs p
          obtain ⟨⟨Z, zb⟩, hgz⟩ : ∃ z, great1 bs p.k p.t p.c 1 ⟨0, 0, 0⟩ = z := ⟨_, rfl⟩
          rw [hgz] at hz hgl
          have HGL : Hid (zb = decide (fill1 bs p).small) := hgl
          obtain ⟨c0, c1, c2, c3, _⟩ := box4 (HK4.out.heap HB1.out)
          clear hgl hgz
          go_wp2_with fail
          refine hz.mono ?_
          clear hz c0 c1 c2 c3
          rintro e W5 ⟨rfl, hk5⟩
          have HK5 := Lib.hid (HK4.out.trans hk5)
          have hlt5 : w.heap.size + 1 < W5.heap.size := by have := heap_lt HB2.out; have := HK5.out.size; omega
          clear hk5
          cases zb with
          | false =>
            have hf : fillF p bs = (zeroNd, 2) := by
              unfold fillF
              rw [if_pos HRP.out, if_pos HARG.out, if_pos HWR.out, if_neg (by have := HGL.out; simpa using this)]
            obtain ⟨_, hfin⟩ := HZERO.out W5 HK5.out 2 hf
            have hfa := hfin.alloc (.cells (sumc Z) TS)
            have hbx : (set4z W5 (w.heap.size + 1) zeroNd none 0 0).heap[w.heap.size + 1]? = some (.cells (four e0 0 e0 none 0 0) T (0, 0)) := by
              rw [heap_set (heap_set (heap_set (heap_set (HK5.out.heap HB2.out) _ _) _ _) _ _) _ _]; rfl
            obtain ⟨z0, z1, z2, z3, _⟩ := box4 (((Keeps.refl (fun _ => False) (set4z W5 (w.heap.size + 1) zeroNd none 0 0)).alloc (.cells (sumc Z) TS)).heap hbx)
            obtain ⟨r0, r1, r2, r3, g0, g1, g2, g3⟩ := HRES.out W5 HK5.out
            have HFIN := Lib.hid hfa
            clear hf hfin hfa hbx
            go_wp2_with fail
            refine bodyPost_ret (v := .tuple #[tv e0 0 e0 none 0 0, .int .i64 2]) (by simp [results, Try.results17, go_sem, z0, z1, z2, z3]) rfl ?_
            exact HFIN.out
          | true =>
            have hsmall : (fill1 bs p).small := by have := HGL.out; simpa using this
            have hf : fillF p bs = (fill1 bs p, 0) := by
              unfold fillF
              rw [if_pos HRP.out, if_pos HARG.out, if_pos HWR.out, if_pos hsmall]
            have hk6 : Keeps (fun _ => False) W5 (W5.alloc (.cells (sumc Z) TS)) := (Keeps.refl _ W5).alloc _
            have hK6 := HK5.out.trans hk6
            have hn := small_nodes (mayF_small (pmayF_zero HRP.out).1)
            have hz := rfill_any bs bp bl bc hbc hbc2 (p.c.nodes + 1) (by omega) p.k p.n p.t p.c (fun b => b < w.heap.size) A' cp cl cc _ (by omega) (HP1.out.next hK6) (HBB.out.next hK6) (fun b hb => by have := HA'.out b hb; have := hK6.size; have := HKK.out.size; omega)
            obtain ⟨y, hy⟩ : ∃ y, fill1 bs p = y := ⟨_, rfl⟩
            have hz : Calls Try.prog 65 #[tv p.k p.n p.t cp cl cc, .slice bp bl bc] (W5.alloc (.cells (sumc Z) TS)) (FillX y A' (W5.alloc (.cells (sumc Z) TS))) := by rw [← hy]; exact hz
            rw [hy] at hf
            have HF := Lib.hid hf
            obtain ⟨c0, c1, c2, c3, _⟩ := box4 (hK6.heap HB1.out)
            have HK6 := Lib.hid hK6
            clear hf hk6 hK6 hsmall hn hy
            go_wp2_with fail
            refine hz.mono ?_
            clear hz c0 c1 c2 c3
            rintro e W7 ⟨yp, yl, yc, rfl, hty, hk7⟩
            have hk17 := HK6.out.trans hk7
            obtain ⟨⟨z0, z1, z2, z3⟩, hfin⟩ := fill_end (code := 0) (hk17.heap HB2.out) (by omega) (HKK.out.trans hk17) hty (fun b hb e => by
              simp at hb
              rcases hb with hb | hb
              · have := HA'.out b hb; omega
              · omega) (A' := A') (fun b hb => hb.imp id fun h => ⟨by have := h.1; simp at this; have := HK5.out.size; have := HKK.out.size; omega, h.2⟩)
            rw [← HF.out] at hfin
            obtain ⟨r0, r1, r2, r3, g0, g1, g2, g3⟩ := HRES.out W7 hk17
            have HFIN := Lib.hid hfin
            clear hfin hty hk7 hk17
            go_wp2_with fail
            refine bodyPost_ret (v := .tuple #[tv y.k y.n y.t yp yl yc, .int .i64 0]) (by simp [results, Try.results17, go_sem, z0, z1, z2, z3]) rfl ?_
            exact HFIN.out
        · have hne : (wr9 != 0) = true := by simpa using hw0
          have hf : fillF p bs = (zeroNd, wr9) := by unfold fillF; rw [if_pos HRP.out, if_pos HARG.out, if_neg (by rw [HWR.out]; exact hw0), HWR.out]
          obtain ⟨⟨z0, z1, z2, z3⟩, hfin⟩ := HZERO.out W4 HK4.out wr9 hf
          obtain ⟨r0, r1, r2, r3, g0, g1, g2, g3⟩ := HRES.out W4 HK4.out
          have HFIN := Lib.hid hfin
          clear hf hfin hw0
          go_wp2_with fail
          refine bodyPost_ret (v := .tuple #[tv e0 0 e0 none 0 0, .int .i64 wr9]) (by simp [results, Try.results17, go_sem, z0, z1, z2, z3]) rfl ?_
          exact HFIN.out
  · have hne : (rp != 0) = true := by simpa using h1
    have hf : fillF p bs = (zeroNd, rp) := by unfold fillF; rw [if_neg (by rw [HRP.out]; exact h1), HRP.out]
    obtain ⟨⟨z0, z1, z2, z3⟩, hfin⟩ := HZERO.out W2 hk2 rp hf
    obtain ⟨r0, r1, r2, r3, g0, g1, g2, g3⟩ := HRES.out W2 hk2
    have HFIN := Lib.hid hfin
    clear hf hfin
    go_wp2_with fail
    refine bodyPost_ret (v := .tuple #[tv e0 0 e0 none 0 0, .int .i64 rp]) (by simp [results, Try.results17, go_sem, z0, z1, z2, z3]) rfl ?_
    exact HFIN.out
theorem rFillA_any (p : Nd) (bs : List Bind) (cp bp : Option Addr) (cl cc bl bc : Nat) (A A' : Nat → Prop) (w : World) (h : Tv w A p.k p.t p.c cp cl cc) (hB : BindsAt w A' bs bp bl) (hbc : bl ≤ bc) (hbc2 : bc ≤ 9223372036854775807) :
    Calls Try.prog 17 #[tv p.k p.n p.t cp cl cc, .slice bp bl bc] w (RFillR (fillF p bs) w) :=
  (rFillX_any p bs cp bp cl cc bl bc A _ w h hB.top hbc hbc2 (fun _ h => h)).mono fun e w' ⟨cp1, cl1, cc1, h1, h2, h3⟩ => ⟨cp1, cl1, cc1, h1, h2.top, h3⟩
end Go.Proofs.Ytccoihmibkpedaa
