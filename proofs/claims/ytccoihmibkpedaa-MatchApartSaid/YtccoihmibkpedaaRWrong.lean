/-
  espalierref24.wrong: its walk.
-/
import Derived.Test.YtccoihmibkpedaaRPMay

set_option linter.unusedVariables false

set_option linter.unusedSimpArgs false

namespace Go.Proofs.Ytccoihmibkpedaa

open Go.RowKit

attribute [local go_sem] Oper.semAt_some

def lackP (bs : List Bind) (e : Note) : Bool := (bget bs e.1).isSome
def wrongP (bs : List Bind) (e : Note) : Bool := match bget bs e.1 with | some y => likeF e.2.1 e.2.2 y | none => true
theorem wrongF_def (bs : List Bind) (l : List Note) : wrongF bs l = if l.all (lackP bs) then (if l.all (wrongP bs) then 0 else 41) else 3 := rfl
theorem all_drop {α : Type} {L : List α} {p : α → Bool} {j : Nat} {e : α} (h : L[j]? = some e) : (L.drop j).all p = (p e && (L.drop (j + 1)).all p) := by
  rw [List.drop_eq_getElem_cons (List.getElem?_eq_some_iff.1 h).1, (List.getElem?_eq_some_iff.1 h).2, List.all_cons]
set_option maxRecDepth 100000 in
set_option maxHeartbeats 3200000 in
theorem rWrong_any (p : Nd) (bs : List Bind) (cp bp : Option Addr) (cl cc bl bc : Nat) (A A' : Nat → Prop) (w : World) (h : Tv w A p.k p.t p.c cp cl cc) (hB : BindsAt w A' bs bp bl) (hbc : bl ≤ bc) (hbc2 : bc ≤ 9223372036854775807) (hp : pmayF p = 0) :
    Calls Try.prog 63 #[tv p.k p.n p.t cp cl cc, .slice bp bl bc] w fun e w' => e = .returned (.int .i64 (wrongF bs (nts p.all))) ∧ Keeps (fun _ => False) w w' := by
  obtain ⟨W1, hW1⟩ : ∃ W1, W1 = w.alloc (.cells (four p.k p.n p.t cp cl cc) T) := ⟨_, rfl⟩
  have hK : Keeps (fun _ => False) w W1 := by rw [hW1]; exact (Keeps.refl _ w).alloc _
  have hb1 : W1.heap[w.heap.size]? = some (.cells (four p.k p.n p.t cp cl cc) T (0, 0)) := by rw [hW1]; exact heap_alloc_new _ _
  have hz := look0_ok p cp cl cc _ W1 (h.next hK) hp
  obtain ⟨c0, c1, c2, c3, _⟩ := box4 hb1
  have hB1 := (hB.next hK).top
  have hnl : (nts p.all).length ≤ 1024 := by have := nts_len p; have := small_nodes (mayF_small (pmayF_zero hp).1); omega
  obtain ⟨L, hL⟩ : ∃ L, nts p.all = L := ⟨_, rfl⟩
  rw [hL] at hz hnl ⊢
  have HW := Lib.hid hW1
  have HB1 := Lib.hid hB1
  clear hL hW1 hb1 hB h hB1 hp
  go_enter Try.func63, Try.ntmps63
  go_upto_region 1 with fail
  rw [← HW.out]
  go_wp2_with fail
  refine hz.mono ?_
  clear hz c0 c1 c2 c3
  rintro e W3 ⟨lp, ll, lc, rfl, hI, hk3⟩
  have hll : ll = L.length := hI.len
  obtain ⟨hlc1, hlc2⟩ := hI.cap
  have HLL := Lib.hid hll
  have HI := Lib.hid hI
  have HK3 := Lib.hid (hK.trans hk3)
  have HB3 := Lib.hid (HB1.out.next hk3).top
  have hll1 : ll ≤ 1024 := by omega
  clear hll hI hk3 HB1
  go_wp2_with fail
  go_loopg [7] ll (fun m i W => ∃ j : Nat, j + m = ll ∧ i = .int .i64 j ∧ L.all (lackP bs) = (L.drop j).all (lackP bs) ∧ Keeps (fun _ => False) W3 W)
  case atStart => exact ⟨0, by omega, rfl, rfl, Keeps.refl _ _⟩
  case round =>
    obtain ⟨j, hjm, rfl, hal, hkr⟩ := hrel
    have hj0 : (0 : Int) ≤ (j : Int) := Int.natCast_nonneg _
    have HJ := Lib.hid hjm
    have HA := Lib.hid hal
    have HKR := Lib.hid hkr
    clear hjm hal hkr
    by_cases hlt : j < ll
    · obtain ⟨⟨nm, n2, t2⟩, he⟩ : ∃ e, L[j]? = some e := ⟨_, List.getElem?_eq_getElem (by have := HLL.out; omega)⟩
      obtain ⟨g, rfl, _, _, e0', _⟩ := (HI.out.keeps HKR.out (fun _ _ h => h)).at_ he
      have hi1 : (j : Int) < (ll : Int) := by omega
      have hd : Hid ((L.drop j).all (lackP bs) = (lackP bs (nm, n2, t2) && (L.drop (j + 1)).all (lackP bs))) := Lib.hid (all_drop he)
      have hz := bound_any bs nm bp bl bc _ wr (HB3.out.next HKR.out).top (fun b h => h) hbc hbc2
      clear he
      go_wp2_with fail
      refine hz.mono ?_
      clear hz e0'
      rintro e W4 (⟨y, yp, yl, yc, hbg, rfl, _, hk4⟩ | ⟨hbg, rfl, hk4⟩)
      · have hf : Hid (lackP bs (nm, n2, t2) = true) := by show _ = _; unfold lackP; rw [hbg]; rfl
        have HK4 := Lib.hid hk4
        clear hbg hk4
        go_wp2_with fail
        go_roundg (gk - 1)
        case measure => have := HJ.out; omega
        case rel => exact ⟨j + 1, by have := HJ.out; omega, by go_num, by rw [HA.out, hd.out, hf.out]; rfl, (HKR.out.trans HK4.out).alloc _⟩
      · have hf : Hid (lackP bs (nm, n2, t2) = false) := by show _ = _; unfold lackP; rw [hbg]; rfl
        have HK4 := Lib.hid hk4
        clear hbg hk4
        go_wp2_with fail
        go_ret
        exact ⟨by rw [wrongF_def, HA.out, hd.out, hf.out]; rfl, HK3.out.trans ((HKR.out.trans HK4.out).alloc _)⟩
    · have hall : Hid (L.all (lackP bs) = true) := by show _ = _; rw [HA.out, List.drop_eq_nil_of_le (by have := HLL.out; omega)]; rfl
      have HKR1 := HKR
      obtain ⟨V, hV⟩ : ∃ V, V = wr := ⟨_, rfl⟩
      subst hV
      clear HKR HJ HA
      go_wp2_with fail
      clear hlt
      go_loopg [10] ll (fun m i W => ∃ j : Nat, j + m = ll ∧ i = .int .i64 j ∧ L.all (wrongP bs) = (L.drop j).all (wrongP bs) ∧ Keeps (fun _ => False) V W)
      case atStart => exact ⟨0, by omega, rfl, rfl, Keeps.refl _ _⟩
      case round =>
        obtain ⟨j, hjm, rfl, hal, hkr⟩ := hrel
        have hj0 : (0 : Int) ≤ (j : Int) := Int.natCast_nonneg _
        have HJ := Lib.hid hjm
        have HA := Lib.hid hal
        have HKR := Lib.hid (HKR1.out.trans hkr)
        have HKV := Lib.hid hkr
        clear hjm hal hkr
        by_cases hlt : j < ll
        · obtain ⟨⟨nm, n2, t2⟩, he⟩ : ∃ e, L[j]? = some e := ⟨_, List.getElem?_eq_getElem (by have := HLL.out; omega)⟩
          have hIr := HI.out.keeps HKR.out (fun _ _ h => h)
          obtain ⟨g, rfl, _, hg, e0', _⟩ := hIr.at_ he
          have hi1 : (j : Int) < (ll : Int) := by omega
          have hd : Hid ((L.drop j).all (wrongP bs) = (wrongP bs (nm, n2, t2) && (L.drop (j + 1)).all (wrongP bs))) := Lib.hid (all_drop he)
          have hlk : lackP bs (nm, n2, t2) = true := List.all_eq_true.1 hall.out _ (List.mem_of_getElem? he)
          have hz := bound_any bs nm bp bl bc _ wr (HB3.out.next HKR.out).top (fun b h => h) hbc hbc2
          have HIr := Lib.hid hIr
          have HEE := Lib.hid he
          have HLK := Lib.hid hlk
          clear he hIr hlk
          go_wp2_with fail
          refine hz.mono ?_
          clear hz e0'
          rintro e W4 (⟨y, yp, yl, yc, hbg, rfl, hty, hk4⟩ | ⟨hbg, rfl, hk4⟩)
          · have hf : Hid (wrongP bs (nm, n2, t2) = likeF n2 t2 y) := by show _ = _; unfold wrongP; simp only [hbg]
            have hk5 := (Keeps.refl (fun _ => False) W4).alloc (.cells (four y.k y.n y.t yp yl yc) T)
            have HK4 := Lib.hid (HKV.out.trans (hk4.trans hk5))
            have hty5 := hty.next hk5
            have hb5 := heap_alloc_new W4 (.cells (four y.k y.n y.t yp yl yc) T)
            obtain ⟨yb, hyb⟩ : ∃ b, b = W4.heap.size := ⟨_, rfl⟩
            obtain ⟨W5, hW5⟩ : ∃ V, V = W4.alloc (.cells (four y.k y.n y.t yp yl yc) T) := ⟨_, rfl⟩
            have hI5 := (HIr.out.keeps (hk4.trans hk5) (fun _ _ h => h))
            rw [← hW5] at hI5 hb5 hty5 HK4
            rw [← hyb] at hb5
            obtain ⟨g', hg', _, _, e0', e1', e2'⟩ := hI5.at_ HEE.out
            simp only [Option.some.injEq, Addr.mk.injEq, and_true] at hg'
            subst hg'
            obtain ⟨y0, y1, y2, y3, _⟩ := box4 hb5
            have hdr : Keeps (fun _ => False) W5 W5.drew := (Keeps.refl _ W5).drew
            have hz := rLike_any y.k y.n y.t y.c yp yl yc _ n2 t2 W5.drew (hty5.next hdr)
            obtain ⟨lk, hlk⟩ : ∃ v, likeF n2 t2 ⟨y.k, y.n, y.t, y.c⟩ = v := ⟨_, rfl⟩
            rw [hlk] at hz
            have HF := Lib.hid (hf.out.trans hlk)
            clear hbg hk4 hk5 hty hty5 hb5 hI5 hdr hlk hf
            go_upto_region 12 with fail
            rw [← hyb, ← hW5]
            clear hyb hW5
            go_still_tail 11, (by kernel_rfl)
            change wpList _ _ _ _ _ W5.drew
            go_wp2_with fail
            refine hz.mono ?_
            clear hz y0 y1 y2 y3 e0' e1' e2'
            rintro e W6 ⟨rfl, hk6⟩
            have HK6 := Lib.hid (HK4.out.trans (((Keeps.refl _ W5).drew).trans hk6))
            clear hk6
            cases lk with
            | true =>
              go_wp2_with fail
              go_roundg (gk - 1)
              case measure => have := HJ.out; omega
              case rel => exact ⟨j + 1, by have := HJ.out; omega, by go_num, by rw [HA.out, hd.out, HF.out]; rfl, HK6.out⟩
            | false =>
              go_wp2_with fail
              go_ret
              exact ⟨by rw [wrongF_def, hall.out, HA.out, hd.out, HF.out]; rfl, HK3.out.trans (HKR1.out.trans HK6.out)⟩
          · exfalso
            have := HLK.out
            unfold lackP at this
            rw [hbg] at this
            simp at this
        · have hall2 : Hid (L.all (wrongP bs) = true) := by show _ = _; rw [HA.out, List.drop_eq_nil_of_le (by have := HLL.out; omega)]; rfl
          go_wp2_with fail
          go_ret
          exact ⟨by rw [wrongF_def, hall.out, hall2.out]; rfl, HK3.out.trans HKR.out⟩
end Go.Proofs.Ytccoihmibkpedaa
