/-
  espalierlaw24.Eq, paths: their walks where both lists are the same.
-/
import Derived.Test.YtccoihmibkpedaaPkG

set_option linter.unusedVariables false

set_option linter.unusedSimpArgs false

namespace Go.Proofs.Ytccoihmibkpedaa

open Go.RowKit

attribute [local go_sem] Oper.semAt_some

set_option maxRecDepth 100000 in
set_option maxHeartbeats 3200000 in
theorem mEq_any (L : List Bind) (lp mp : Option Addr) (ll lc mc : Nat) (A A' : Nat → Prop) (w : World) (h : BindsAt w A L lp ll) (h' : BindsAt w A' L mp ll) (h1 : ll ≤ lc) (h2 : lc ≤ 9223372036854775807) (h3 : ll ≤ mc) (h4 : mc ≤ 9223372036854775807) :
    Calls Try.prog 19 #[.slice lp ll lc, .slice mp ll mc] w fun e w' => e = .returned (.bool true) ∧ Keeps (fun _ => False) w w' := by
  have hll : L.length = ll := h.len
  have HL := Lib.hid h
  have HM := Lib.hid h'
  have HLL := Lib.hid hll
  clear h h' hll
  go_enter Try.func19, Try.ntmps19
  go_wp2_with fail
  go_loopg [5] ll (fun m i W => ∃ j : Nat, j + m = ll ∧ i = .int .i64 j ∧ Keeps (fun _ => False) w W)
  case atStart => exact ⟨0, by omega, rfl, Keeps.refl _ _⟩
  case round =>
    obtain ⟨j, hjm, rfl, hk⟩ := hrel
    have HJ := Lib.hid hjm
    have HK := Lib.hid hk
    clear hjm hk
    have hj0 : (0 : Int) ≤ (j : Int) := Int.natCast_nonneg _
    by_cases hlt : j < ll
    · obtain ⟨⟨nm, y⟩, he⟩ : ∃ e, L[j]? = some e := ⟨_, List.getElem?_eq_getElem (by have := HLL.out; omega)⟩
      obtain ⟨bb, bo, rfl, _, _⟩ := HL.out.addr (by omega)
      obtain ⟨mb, mo, rfl, _, _⟩ := HM.out.addr (by omega)
      obtain ⟨_, b0, _, _, yp, yl, yc, hN⟩ := (HL.out.next HK.out).at_ he
      obtain ⟨_, m0, _, _, zp, zl, zc, hZ⟩ := (HM.out.next HK.out).at_ he
      have q0 := hN.c0
      have q1 := hN.c1
      have q2 := hN.c2
      have q3 := hN.c3
      have z0 := hZ.c0
      have z1 := hZ.c1
      have z2 := hZ.c2
      have z3 := hZ.c3
      have hdr : Keeps (fun _ => False) wr wr.drew := (Keeps.refl _ wr).drew
      have hz := Eq_any (y.c.nodes + 1) y.k y.k y.n y.n y.t y.t y.c y.c _ _ _ _ _ _ _ _ wr.drew (by omega) (hN.tv.next hdr) (hZ.tv.next hdr)
      rw [eqB_self] at hz
      have hi1 : (j : Int) < (ll : Int) := by omega
      have hc : ∀ W', Keeps (fun _ => False) wr.drew W' → W'.cell? ⟨bb, bo + j * 5, none⟩ = some (.string nm) ∧ W'.cell? ⟨mb, mo + j * 5, none⟩ = some (.string nm) := fun W' hk => ⟨((hdr.trans hk).cell (p := ⟨bb, bo + j * 5, none⟩) (World.block_lt_of_cell? wr _ b0) (fun h => h)).trans b0, ((hdr.trans hk).cell (p := ⟨mb, mo + j * 5, none⟩) (World.block_lt_of_cell? wr _ m0) (fun h => h)).trans m0⟩
      have HC := Lib.hid hc
      clear hc he hN hZ hdr
      go_wp2_with fail
      go_still_tail 10, (by kernel_rfl)
      change wpList _ _ _ _ _ wr.drew
      go_wp2_with fail
      refine hz.mono ?_
      clear hz q0 q1 q2 q3 z0 z1 z2 z3 b0 m0
      rintro e W8 ⟨rfl, hk8⟩
      obtain ⟨b0, m0⟩ := HC.out _ hk8
      have HK8 := Lib.hid (HK.out.trans (((Keeps.refl _ wr).drew).trans hk8))
      clear hk8
      go_wp2_with fail
      go_quiet (fail)
      go_wp2_with fail
      go_roundg (gk - 1)
      case measure => have := HJ.out; omega
      case rel => exact ⟨j + 1, by have := HJ.out; omega, by go_num, HK8.out.drewN _⟩
    · go_wp2_with fail
      go_ret
      exact ⟨rfl, HK.out⟩
set_option maxRecDepth 100000 in
set_option maxHeartbeats 3200000 in
theorem mPaths_any (L : List (List Int)) (D D' : Nat) (lp mp : Option Addr) (ll lc ml mc : Nat) (vs vs' : List Value) (w : World) (h : PathsI D w L lp ll lc vs) (h' : PathsI D' w L mp ml mc vs') :
    Calls Try.prog 23 #[.slice lp ll lc, .slice mp ml mc] w fun e w' => e = .returned (.bool true) ∧ Keeps (fun _ => False) w w' := by
  have hl := h.leng
  obtain rfl : ml = ll := by rw [hl, h'.leng]
  have hcap : ∀ {D : Nat} {p : Option Addr} {l c : Nat} {vs : List Value}, PathsI D w L p l c vs → l ≤ c ∧ c ≤ 9223372036854775807 := fun h => by
    obtain ⟨pp, cap, hv, h1, h2, h3⟩ := ownsRow_slice h.row
    have hl := h.leng
    simp only [Value.slice.injEq] at hv
    obtain ⟨rfl, hq, rfl⟩ := hv
    unfold maxLen at h2
    exact ⟨by omega, h2⟩
  obtain ⟨h1, h2⟩ := hcap h
  obtain ⟨h3, h4⟩ := hcap h'
  have HL := Lib.hid h
  have HM := Lib.hid h'
  have HLL := Lib.hid hl
  clear h h' hl hcap
  go_enter Try.func23, Try.ntmps23
  go_wp2_with fail
  go_loopg [5] ml (fun m i W => ∃ j : Nat, j + m = ml ∧ i = .int .i64 j ∧ Keeps (fun _ => False) w W)
  case atStart => exact ⟨0, by omega, rfl, Keeps.refl _ _⟩
  case round =>
    obtain ⟨j, hjm, rfl, hk⟩ := hrel
    have HJ := Lib.hid hjm
    have HK := Lib.hid hk
    clear hjm hk
    have hj0 : (0 : Int) ≤ (j : Int) := Int.natCast_nonneg _
    by_cases hlt : j < ml
    · obtain ⟨p, he⟩ : ∃ e, L[j]? = some e := ⟨_, List.getElem?_eq_getElem (by have := HLL.out; omega)⟩
      obtain ⟨g, pp, pc, rfl, _, g0, hi⟩ := (HL.out.next HK.out (fun _ h => h.elim)).get he
      obtain ⟨g', pp', pc', rfl, _, g0', hi'⟩ := (HM.out.next HK.out (fun _ h => h.elim)).get he
      have hdr : Keeps (fun _ => False) wr wr.drew := (Keeps.refl _ wr).drew
      have hz := EqPath_any p p pp pp' p.length p.length pc pc' _ _ wr.drew (hi.keeps hdr (fun _ _ h => h)) (hi'.keeps hdr (fun _ _ h => h))
      rw [decide_eq_true rfl] at hz
      have hi1 : (j : Int) < (ml : Int) := by omega
      clear he hi hi' hdr
      go_wp2_with fail
      go_still_tail 8, (by kernel_rfl)
      change wpList _ _ _ _ _ wr.drew
      go_wp2_with fail
      refine hz.mono ?_
      clear hz g0 g0'
      rintro e W8 ⟨rfl, hk8⟩
      have HK8 := Lib.hid (HK.out.trans (((Keeps.refl _ wr).drew).trans hk8))
      clear hk8
      go_wp2_with fail
      go_roundg (gk - 1)
      case measure => have := HJ.out; omega
      case rel => exact ⟨j + 1, by have := HJ.out; omega, by go_num, HK8.out⟩
    · go_wp2_with fail
      go_ret
      exact ⟨rfl, HK.out⟩
end Go.Proofs.Ytccoihmibkpedaa
