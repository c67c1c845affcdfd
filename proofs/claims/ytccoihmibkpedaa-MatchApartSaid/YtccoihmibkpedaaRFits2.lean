/-
  espalierref24.Fits: its walk.
-/
import Derived.Test.YtccoihmibkpedaaRFits

set_option linter.unusedVariables false

set_option linter.unusedSimpArgs false

namespace Go.Proofs.Ytccoihmibkpedaa

open Go.RowKit

/-- What the reference's Fits leaves: the trees lie in what was handed in. -/
def RFitsX (A : Nat → Prop) (bs : List Bind) (ok : Bool) (w : World) (e : Ending) (w' : World) : Prop :=
  ∃ lp ll lc xs, e = .returned (.tuple #[.slice lp ll lc, .bool ok]) ∧ BindsX w.heap.size A w' bs lp ll lc xs ∧ Keeps (fun _ => False) w w'
def RFitsR (bs : List Bind) (ok : Bool) (w : World) (e : Ending) (w' : World) : Prop := RFitsX (fun b => b < w.heap.size) bs ok w e w'
set_option maxRecDepth 100000 in
set_option maxHeartbeats 1600000 in
theorem rFitsX_any (p t : Nd) (cp tp : Option Addr) (cl cc tl tc : Nat) (A A' : Nat → Prop) (w : World) (h : Tv w A p.k p.t p.c cp cl cc) (h' : Tv w A' t.k t.t t.c tp tl tc) (hA' : ∀ b, A' b → b < w.heap.size) :
    Calls Try.prog 15 #[tv p.k p.n p.t cp cl cc, tv t.k t.n t.t tp tl tc] w (RFitsX A' (fitsB p t) (fitsF p t).isSome w) := by
  obtain ⟨Wp, hWp⟩ : ∃ W1, W1 = w.alloc (.cells (four p.k p.n p.t cp cl cc) T) := ⟨_, rfl⟩
  obtain ⟨W1, hW1⟩ : ∃ W1, W1 = Wp.alloc (.cells (four t.k t.n t.t tp tl tc) T) := ⟨_, rfl⟩
  have hKp : Keeps (fun _ => False) w Wp := by rw [hWp]; exact (Keeps.refl _ w).alloc _
  have hK1 : Keeps (fun _ => False) Wp W1 := by rw [hW1]; exact (Keeps.refl _ Wp).alloc _
  have hK := hKp.trans hK1
  have hsp : Wp.heap.size = w.heap.size + 1 := by rw [hWp]; simp
  have hb1 : W1.heap[w.heap.size]? = some (.cells (four p.k p.n p.t cp cl cc) T (0, 0)) := by
    refine hK1.heap ?_
    rw [hWp]; exact heap_alloc_new _ _
  have hb2 : W1.heap[w.heap.size + 1]? = some (.cells (four t.k t.n t.t tp tl tc) T (0, 0)) := by rw [hW1, ← hsp]; exact heap_alloc_new _ _
  have hp1 : Tv W1 (fun b => b < w.heap.size) p.k p.t p.c cp cl cc := h.top.next hK
  have ht1 : Tv W1 A' t.k t.t t.c tp tl tc := h'.next hK
  have HA' := Lib.hid hA'
  have HW : Hid (W1 = (w.alloc (.cells (four p.k p.n p.t cp cl cc) T)).alloc (.cells (four t.k t.n t.t tp tl tc) T)) := Lib.hid (by rw [hW1, hWp])
  have hz := rMay_any t tp tl tc _ W1 ht1
  obtain ⟨rt, hrt⟩ : ∃ r, mayF t = r := ⟨_, rfl⟩
  rw [hrt] at hz
  obtain ⟨c0, c1, c2, c3, _⟩ := box4 hb1
  obtain ⟨d0, d1, d2, d3, _⟩ := box4 hb2
  have HB1 := Lib.hid hb1
  have HB2 := Lib.hid hb2
  have HP1 := Lib.hid hp1
  have HT1 := Lib.hid ht1
  have HRT := Lib.hid hrt
  have HSZ := Lib.hid hK1.size
  clear hW1 hWp hb1 hb2 hp1 ht1 hrt h h' hsp hKp hK1 hA'
  go_enter Try.func15, Try.ntmps15
  go_upto_region 1 with fail
  rw [← HW.out]
  go_wp2_with fail
  refine hz.mono ?_
  clear hz c0 c1 c2 c3 d0 d1 d2 d3
  rintro e W2 ⟨rfl, hk2⟩
  have hz := rPMay_any p cp cl cc _ W2 (HP1.out.next hk2)
  obtain ⟨rp, hrp⟩ : ∃ r, pmayF p = r := ⟨_, rfl⟩
  rw [hrp] at hz
  have HRP := Lib.hid hrp
  obtain ⟨c0, c1, c2, c3, _⟩ := box4 (hk2.heap HB1.out)
  obtain ⟨d0, d1, d2, d3, _⟩ := box4 (hk2.heap HB2.out)
  clear hrp
  go_wp2_with fail
  refine hz.mono ?_
  clear hz c0 c1 c2 c3 d0 d1 d2 d3
  rintro e W3 ⟨rfl, hk3⟩
  have hk3 := hk2.trans hk3
  have hno : ∀ W', Keeps (fun _ => False) W1 W' → fitsF p t = none → RFitsX A' (fitsB p t) (fitsF p t).isSome w (.returned (.tuple #[.slice none 0 0, .bool false])) W' := fun W' hk hf => by
    rw [show fitsB p t = [] by simp [fitsB, hf], hf]
    exact ⟨none, 0, 0, [], rfl, BindsX.start _ _ _, hK.trans hk⟩
  have HNO := Lib.hid hno
  have HK3 := Lib.hid hk3
  clear hno hk2
  by_cases h1 : rp = 0
  · subst h1
    by_cases h2 : rt = 0
    · subst h2
      have hsm := mayF_small HRT.out
      have hn := small_nodes (mayF_small (pmayF_zero HRP.out).1)
      have hz := rfits_any W3.heap.size A' (fun b => b < w.heap.size) (fun b hb => by have := HA'.out b hb; have := hk3.size; have := hK.size; omega) (fun b hb => by have := hk3.size; have := hK.size; omega) (p.c.nodes + 1) p.k p.n p.t p.c cp cl cc t tp tl tc [] none 0 0 [] W3 (by omega) (HP1.out.next hk3) (HT1.out.next hk3) hsm (BindsX.start _ _ _) (by simp) (Nat.le_refl _) (by simp; omega)
      obtain ⟨⟨L, b⟩, hq⟩ : ∃ q, fit1 p.k p.n p.t p.c t [] = q := ⟨_, rfl⟩
      rw [hq] at hz
      have hft : fitsF p t = if b then some L else none := by
        unfold fitsF
        rw [hq]
        cases b with
        | true => simp [HRP.out, HRT.out]
        | false => simp
      have HFT := Lib.hid hft
      obtain ⟨c0, c1, c2, c3, _⟩ := box4 (hk3.heap HB1.out)
      obtain ⟨d0, d1, d2, d3, _⟩ := box4 (hk3.heap HB2.out)
      clear hq hft hsm hn hk3
      go_wp2_with fail
      refine hz.mono ?_
      clear hz c0 c1 c2 c3 d0 d1 d2 d3
      rintro e W4 ⟨lp, ll, lc, xs, rfl, hI, _, hk4⟩
      have HK4 := Lib.hid (HK3.out.trans (hk4.mono (S' := fun _ => False) fun b hb _ => by simp [Value.ownBlock] at hb))
      have HI := Lib.hid hI
      clear hI hk4
      cases b with
      | true =>
        go_wp2_with fail
        go_ret2
        have hf : fitsF p t = some L := by rw [HFT.out]; rfl
        rw [show fitsB p t = L by simp [fitsB, hf], hf]
        exact ⟨lp, ll, lc, xs, rfl, HI.out.lower (by have := HK3.out.size; have := hK.size; omega), hK.trans HK4.out⟩
      | false =>
        go_wp2_with fail
        go_ret2
        exact HNO.out _ HK4.out (by rw [HFT.out]; rfl)
    · have hne : (rt != 0) = true := by simpa using h2
      clear hk3
      go_wp2_with fail
      go_ret2
      exact HNO.out _ HK3.out (by rw [fitsF, if_neg (fun h => h2 (HRT.out ▸ h.2.1))])
  · have hne : (rp != 0) = true := by simpa using h1
    clear hk3
    go_wp2_with fail
    go_ret2
    exact HNO.out _ HK3.out (by rw [fitsF, if_neg (fun h => h1 (HRP.out ▸ h.1))])
theorem rFits_any (p t : Nd) (cp tp : Option Addr) (cl cc tl tc : Nat) (A A' : Nat → Prop) (w : World) (h : Tv w A p.k p.t p.c cp cl cc) (h' : Tv w A' t.k t.t t.c tp tl tc) :
    Calls Try.prog 15 #[tv p.k p.n p.t cp cl cc, tv t.k t.n t.t tp tl tc] w (RFitsR (fitsB p t) (fitsF p t).isSome w) := rFitsX_any p t cp tp cl cc tl tc A _ w h h'.top (fun _ h => h)
end Go.Proofs.Ytccoihmibkpedaa
