/-
  match.fits: its walk.
-/
import Derived.Test.YtccoihmibkpedaaPkE

import Derived.StillTailTactics

set_option linter.unusedVariables false

set_option linter.unusedSimpArgs false

namespace Go.Proofs.Ytccoihmibkpedaa

open Go.RowKit

theorem eqN_self (x : Nd) : eqN x x = true := by simp [eqN]
theorem eqN_true {x y : Nd} : eqN x y = true ↔ x = y := by simp [eqN]
theorem eqN_false {x y : Nd} : eqN x y = false ↔ x ≠ y := by simp [eqN]
theorem eqB_eqN (x y : Nd) : eqB (one x.k x.n x.t x.c) (one y.k y.n y.t y.c) = eqN x y := by
  by_cases h : x = y
  · subst h; rw [eqB_self, eqN_self]
  · rw [eqN_false.2 h, eqB_false.2 (fun e => h (by rw [one_inj] at e; exact Nd.ext' e.1 e.2.1 e.2.2.1 e.2.2.2))]
/-- The kids of a small tree are small. -/
theorem Fo.kid_le {c : Fo} {j : Nat} {k n t s r} (hd : c.drop j = .cons k n t s r) : s.nodes + 1 ≤ c.nodes ∧ s.depth + 1 ≤ c.depth ∧ t.size + s.bytes ≤ c.bytes := by
  induction c generalizing j with
  | nil => rw [Fo.drop_nil] at hd; simp at hd
  | cons k' n' t' s' r' _ ih =>
    cases j with
    | zero =>
      simp only [Fo.drop] at hd
      injection hd with e1 e2 e3 e4 e5
      subst e1 e2 e3 e4 e5
      simp only [Fo.nodes, Fo.depth, Fo.bytes]
      omega
    | succ j =>
      have := ih (j := j) hd
      simp only [Fo.nodes, Fo.depth, Fo.bytes]
      omega
theorem Nd.kid_small {k : ByteArray} {n : Int} {t : ByteArray} {c : Fo} {j : Nat} {k1 n1 t1 s1 r1} (hd : c.drop j = .cons k1 n1 t1 s1 r1) (h : Nd.small ⟨k, n, t, c⟩) : Nd.small ⟨k1, n1, t1, s1⟩ := by
  obtain ⟨h1, h2, h3⟩ := Fo.kid_le hd
  obtain ⟨g1, g2, g3⟩ := h
  simp only [Nd.nodes, Nd.depth, Nd.bytes] at g1 g2 g3
  refine ⟨?_, ?_, ?_⟩
  · simp only [Nd.nodes]; omega
  · simp only [Nd.depth]; omega
  · simp only [Nd.bytes]; omega
/-- A pattern's variables agree, and each is right as to its number. -/
structure PatOK (P : List Nd) : Prop where
  same : ∀ x ∈ P, ∀ y ∈ P, ∀ nm, varF x.k = some nm → varF y.k = some nm → x.n = y.n ∧ x.t = y.t
  num : ∀ x ∈ P, (varF x.k).isSome → x.n = 0 ∨ x.n = 1 ∨ x.n = 2
  leaf : ∀ x ∈ P, (varF x.k).isSome → x.c = .nil
/-- What is bound is as its variables say. -/
def GoodB (P : List Nd) (bs : List Bind) : Prop := ∀ nm y, bget bs nm = some y → ∀ x ∈ P, varF x.k = some nm → likeF x.n x.t y = true
/-- What the map of pointers tells. -/
def KnownJ (A : Nat → Prop) (Mb : Nat) (bs : List Bind) (W : World) : Prop :=
  ∃ M n, MapAt W Mb M n ∧ n ≤ bs.length ∧ (∀ nm, (M nm).isSome = (bget bs nm).isSome) ∧ ∀ nm y, bget bs nm = some y → y.small ∧ ∃ b o cp cl cc, M nm = some (.pointer (some ⟨b, o, none⟩)) ∧ A b ∧ b < W.heap.size ∧ NodeAt W A b o y.k y.n y.t y.c cp cl cc
theorem KnownJ.next {A : Nat → Prop} {Mb : Nat} {bs : List Bind} {W W' : World} (h : KnownJ A Mb bs W) (hk : Keeps (fun _ => False) W W') : KnownJ A Mb bs W' := by
  obtain ⟨M, n, h1, h2, h3, h4⟩ := h
  refine ⟨M, n, h1.keeps hk (fun h => h), h2, h3, fun nm y hy => ?_⟩
  obtain ⟨g0, b, o, cp, cl, cc, g1, g2, g3, g4⟩ := h4 nm y hy
  exact ⟨g0, b, o, cp, cl, cc, g1, g2, Nat.lt_of_lt_of_le g3 hk.size, g4.next hk g3⟩
theorem bget_snoc (bs : List Bind) (nm : ByteArray) (y : Nd) (h : bget bs nm = none) (a : ByteArray) : bget (bs ++ [(nm, y)]) a = if a = nm then some y else bget bs a := by
  unfold bget at h ⊢
  rw [List.find?_append]
  by_cases ha : a = nm
  · subst ha
    rw [if_pos rfl]
    simp only [Option.map_eq_none_iff] at h
    rw [h]
    simp
  · rw [if_neg ha]
    have : (decide (nm = a)) = false := by simpa using fun e => ha e.symm
    simp [List.find?_cons, this]
def FitR (A : Nat → Prop) (P : List Nd) (Mb : Nat) (q : List Bind × Bool) (w : World) (e : Ending) (w' : World) : Prop :=
  e = .returned (.bool q.2) ∧ (q.2 = true → KnownJ A Mb q.1 w' ∧ GoodB P q.1) ∧ Keeps (fun b => b = Mb) w w'
theorem zeroPtr (w : World) : (zeroValue 91).run Try.prog w = .ok (.pointer none) w := by kernel_rfl
set_option maxRecDepth 100000 in
set_option maxHeartbeats 3200000 in
/-- At a variable. -/
theorem fits_var (A A' : Nat → Prop) (P : List Nd) (Mb : Nat) (hP : PatOK P) (hA : ∀ b, A b → b ≠ Mb) (hA' : ∀ b, A' b → b ≠ Mb) (nm : ByteArray) (k : ByteArray) (n : Int) (t : ByteArray) (c : Fo) (b o : Nat) (cp : Option Addr) (cl cc : Nat) (y : Nd) (b' o' : Nat) (cp' : Option Addr) (cl' cc' : Nat) (bs : List Bind) (w : World)
    (hm : (⟨k, n, t, c⟩ : Nd) ∈ P) (hv : varF k = some nm) (hbs : b < w.heap.size) (hb' : A' b' ∧ b' < w.heap.size) (hn : NodeAt w A b o k n t c cp cl cc) (hn' : NodeAt w A' b' o' y.k y.n y.t y.c cp' cl' cc') (hy : y.small) (hK : KnownJ A' Mb bs w) (hG : GoodB P bs) (hl : bs.length ≤ 100000) (hA2 : A b) :
    Calls Try.prog 52 #[.pointer (some ⟨b, o, none⟩), .pointer (some ⟨b', o', none⟩), .map (some Mb)] w (FitR A' P Mb (bindF bs nm n t y) w) := by
  have hvar := variable_any A k n t c b o cp cl cc w hn
  unfold VarR at hvar
  rw [hv] at hvar
  have hnm := varF_size hv hn.size.2
  have hnum := hP.num _ hm (by simp [hv])
  have HN := Lib.hid hn
  have HN' := Lib.hid hn'
  have HK := Lib.hid hK
  have HV := Lib.hid hv
  clear hn hn' hK hv
  have hlike : Hid (∀ z, bget bs nm = some z → likeF n t z = true) := Lib.hid fun z hz => hG nm z hz _ hm HV.out
  go_enter Try.func52, Try.ntmps52
  go_wp2_with fail
  refine hvar.mono ?_
  clear hvar
  rintro e W1 ⟨a, rfl, ha, hk⟩
  obtain rfl := ha nm rfl
  clear ha
  have HK1 := Lib.hid hk
  have hKn := HK.out.next hk
  obtain ⟨M, m, h1, h2, h3, h4⟩ := hKn
  have hlook := (h1.look (t := 89) Try.underlying89 (zeroPtr W1) (nm := a) hnm).1
  have h1' := h1
  have HM := Lib.hid h1
  have H3 := Lib.hid h3
  have H4 := Lib.hid h4
  clear h1 h3 h4 hk
  cases hg : bget bs a with
  | some z =>
    obtain ⟨hz, zb, zo, zp, zl, zc, hMz, hzA, hzb, hzn⟩ := H4.out a z hg
    rw [hMz] at hlook
    simp only [Option.getD_some, Option.isSome_some] at hlook
    have hn1' := HN'.out.next HK1.out hb'.2
    have hSame : Hid (∀ W, Keeps (fun _ => False) W1 W → Calls Try.prog 43 #[tv z.k z.n z.t zp zl zc, tv y.k y.n y.t cp' cl' cc'] W fun e w' => e = .returned (.bool (eqN z y)) ∧ Keeps (fun _ => False) W w') := Lib.hid fun W hkW => by
      have := Same_any z.k y.k z.n y.n z.t y.t z.c y.c zp cp' zl zc cl' cc' _ _ W (hzn.tv.next hkW) (hn1'.tv.next hkW)
      rw [eqB_eqN, big_small, big_small, show decide (Nd.small ⟨z.k, z.n, z.t, z.c⟩) = true by simpa using hz, show decide (Nd.small ⟨y.k, y.n, y.t, y.c⟩) = true by simpa using hy] at this
      simpa using this
    have z0 := hzn.c0
    have z1 := hzn.c1
    have z2 := hzn.c2
    have z3 := hzn.c3
    have y0 := hn1'.c0
    have y1 := hn1'.c1
    have y2 := hn1'.c2
    have y3 := hn1'.c3
    have HB : Hid (bindF bs a n t y = (bs, eqN z y)) := by
      show bindF bs a n t y = _
      unfold bindF
      by_cases hly : likeF n t y = true
      · rw [if_pos hly, hg]
      · rw [if_neg hly]
        have : eqN z y = false := eqN_false.2 (fun e => hly (e ▸ hlike.out z hg))
        rw [this]
    clear hg hzn hn1' hMz hz
    go_wp2_with fail
    go_still_tail 6, (by kernel_rfl)
    change wpList _ _ _ _ _ W1.drew
    have hkd : Keeps (fun _ => False) W1 W1.drew := (Keeps.refl _ W1).drew
    go_wp2_with fail
    refine (hSame.out _ hkd).mono ?_
    rintro e W2 ⟨rfl, hk2⟩
    have hK12 := (HK1.out.trans hkd).trans hk2
    go_wp2_with fail
    go_ret
    rw [HB.out]
    exact ⟨rfl, fun _ => ⟨HK.out.next hK12, hG⟩, hK12.mono fun _ h _ => h.elim⟩
  | none =>
    have hMn : M a = none := by
      have := H3.out a
      rw [hg] at this
      cases hMa : M a with
      | none => rfl
      | some v => rw [hMa] at this; simp at this
    rw [hMn] at hlook
    simp only [Option.getD_none, Option.isSome_none] at hlook
    have hn1 := HN.out.next HK1.out hbs
    have hn1' := HN'.out.next HK1.out hb'.2
    have HG := Lib.hid hg
    have hbW1 : b < W1.heap.size := Nat.lt_of_lt_of_le hbs HK1.out.size
    have hbW1' : b' < W1.heap.size := Nat.lt_of_lt_of_le hb'.2 HK1.out.size
    have HN1 := Lib.hid hn1
    have HN1' := Lib.hid hn1'
    clear hg hMn hn1 hn1'
    go_wp2_with (at_mapUpdate; refine wpList_mapS rfl _ rfl _ _ _ 89 rfl 91 Try.underlying89 Mb m M rfl h1' (by omega) a (.pointer (some ⟨b', o', none⟩)) rfl rfl hnm ?_; intro W4 hm4 hk4)
    have hn4 := HN1.out.keeps hk4 (fun x hx e => hA x hx e) hbW1 (hA b hA2)
    have hn4' := HN1'.out.keeps hk4 (fun x hx e => hA' x hx e) hbW1' (hA' b' hb'.1)
    have hal := allows_any A A' k y.k n y.n t y.t c y.c b o b' o' cp cp' cl cc cl' cc' W4 hn4 hn4' hnum
    have HM4 := Lib.hid hm4
    have HK4 := Lib.hid hk4
    have HN4' := Lib.hid hn4'
    clear hm4 hk4 hn4 hn4' h1' hlook
    go_wp2_with fail
    refine hal.mono ?_
    clear hal
    rintro e W5 ⟨rfl, hk5⟩
    go_wp2_with fail
    go_ret
    have hW5 : Keeps (fun b => b = Mb) W1 W5 := HK4.out.trans' hk5 (fun _ h => h.elim)
    have hend := (HK1.out.mono (S' := fun b => b = Mb) fun _ h _ => h.elim).trans hW5
    by_cases hly : likeF n t y = true
    · have HB : bindF bs a n t y = (bs ++ [(a, y)], true) := by unfold bindF; rw [if_pos hly, HG.out]
      rw [HB, show likeF n t ⟨y.k, y.n, y.t, y.c⟩ = true from hly]
      refine ⟨rfl, fun _ => ⟨⟨putM M a (.pointer (some ⟨b', o', none⟩)), m + 1, HM4.out.keeps hk5 (fun h => h), by simp; omega, fun nm => ?_, fun nm z hz => ?_⟩, fun nm z hz x hx hvx => ?_⟩, hend⟩
      · rw [bget_snoc _ _ _ HG.out]
        unfold putM
        by_cases hne : nm = a
        · simp [hne]
        · simp only [if_neg hne]; exact H3.out nm
      · rw [bget_snoc _ _ _ HG.out] at hz
        unfold putM
        by_cases hne : nm = a
        · rw [if_pos hne] at hz
          simp only [Option.some.injEq] at hz
          subst hz
          exact ⟨hy, b', o', cp', cl', cc', by simp [hne], hb'.1, Nat.lt_of_lt_of_le hbW1' hW5.size, HN4'.out.next hk5 (Nat.lt_of_lt_of_le hbW1' HK4.out.size)⟩
        · rw [if_neg hne] at hz
          obtain ⟨g0, zb, zo, zp, zl, zc, g1, g2, g3, g4⟩ := H4.out nm z hz
          exact ⟨g0, zb, zo, zp, zl, zc, by simp only [if_neg hne]; exact g1, g2, Nat.lt_of_lt_of_le g3 hW5.size, g4.keeps hW5 (fun x hx e => hA' x hx e) g3 (hA' zb g2)⟩
      · rw [bget_snoc _ _ _ HG.out] at hz
        by_cases hne : nm = a
        · rw [if_pos hne] at hz
          simp only [Option.some.injEq] at hz
          subst hz
          obtain ⟨e1, e2⟩ := hP.same _ hx _ hm nm hvx (hne ▸ HV.out)
          rw [e1, e2]; exact hly
        · rw [if_neg hne] at hz
          exact hG nm z hz x hx hvx
    · have HB : bindF bs a n t y = (bs, false) := by unfold bindF; rw [if_neg hly]
      rw [HB, show likeF n t ⟨y.k, y.n, y.t, y.c⟩ = false by simpa using hly]
      exact ⟨rfl, fun h => by simp at h, hend⟩
theorem bindF_len (bs : List Bind) (nm : ByteArray) (n : Int) (t : ByteArray) (y : Nd) : (bindF bs nm n t y).1.length ≤ bs.length + 1 := by
  unfold bindF
  split
  · split
    · simp
    · simp
  · simp
theorem fitFo_len : ∀ (f g : Fo) (bs : List Bind), (fitFo f g bs).1.length ≤ bs.length + f.nodes
  | .nil, _, bs => by simp [fitFo]
  | .cons k n t c r, .nil, bs => by simp [fitFo]
  | .cons k n t c r, .cons k' n' t' c' r', bs => by
    rw [fitFo_cons]
    have h1 : (fit1 k n t c ⟨k', n', t', c'⟩ bs).1.length ≤ bs.length + c.nodes + 1 := by
      unfold fit1
      split
      · have := bindF_len bs ‹_› n t ⟨k', n', t', c'⟩; omega
      · split
        · have h2 := fitFo_len c c' bs
          show (fitFo c c' bs).1.length ≤ _
          omega
        · simp; omega
    simp only [Fo.nodes]
    split
    · have := fitFo_len r r' (fit1 k n t c ⟨k', n', t', c'⟩ bs).1; omega
    · simp only; omega
theorem fit1_len (k : ByteArray) (n : Int) (t : ByteArray) (c : Fo) (y : Nd) (bs : List Bind) : (fit1 k n t c y bs).1.length ≤ bs.length + c.nodes + 1 := by
  unfold fit1
  split
  · have := bindF_len bs ‹_› n t y; omega
  · split
    · have := fitFo_len c y.c bs; omega
    · simp; omega
set_option maxRecDepth 100000 in
set_option maxHeartbeats 3200000 in
theorem fits_any (A A' : Nat → Prop) (P : List Nd) (Mb : Nat) (hP : PatOK P) (hA : ∀ b, A b → b ≠ Mb) (hA' : ∀ b, A' b → b ≠ Mb) : ∀ (N : Nat) (k : ByteArray) (n : Int) (t : ByteArray) (c : Fo) (b o : Nat) (cp : Option Addr) (cl cc : Nat) (y : Nd) (b' o' : Nat) (cp' : Option Addr) (cl' cc' : Nat) (bs : List Bind) (w : World), c.nodes < N →
    (∀ x ∈ Nd.all ⟨k, n, t, c⟩, x ∈ P) → A b → b < w.heap.size → A' b' → b' < w.heap.size → NodeAt w A b o k n t c cp cl cc → NodeAt w A' b' o' y.k y.n y.t y.c cp' cl' cc' → y.small → KnownJ A' Mb bs w → GoodB P bs → bs.length + c.nodes ≤ 100000 →
    Calls Try.prog 52 #[.pointer (some ⟨b, o, none⟩), .pointer (some ⟨b', o', none⟩), .map (some Mb)] w (FitR A' P Mb (fit1 k n t c y bs) w) := by
  intro N
  induction N with
  | zero => intros; omega
  | succ N ih =>
    intro k n t c b o cp cl cc y b' o' cp' cl' cc' bs w hN hsub hb hbs hb' hbs' hn hn' hy hK hG hl
    cases hv : varF k with
    | some nm =>
      have := fits_var A A' P Mb hP hA hA' nm k n t c b o cp cl cc y b' o' cp' cl' cc' bs w (hsub _ (by simp [Nd.all])) hv hbs ⟨hb', hbs'⟩ hn hn' hy hK hG (by omega) hb
      rw [show fit1 k n t c y bs = bindF bs nm n t y by unfold fit1; rw [hv]]
      exact this
    | none =>
      have hvar := variable_any A k n t c b o cp cl cc w hn
      unfold VarR at hvar
      rw [hv] at hvar
      have HF : Hid (fit1 k n t c y bs = if k = y.k ∧ n = y.n ∧ t = y.t ∧ c.len = y.c.len then fitFo c y.c bs else (bs, false)) := by show fit1 k n t c y bs = _; unfold fit1; rw [hv]
      have hno : (¬ (k = y.k ∧ n = y.n ∧ t = y.t ∧ c.len = y.c.len)) → ∀ e w', e = .returned (.bool false) → Keeps (fun _ => False) w w' → FitR A' P Mb (fit1 k n t c y bs) w e w' := fun h e w' he hk => by
        rw [HF.out, if_neg h]
        exact ⟨he, fun h => by simp at h, hk.mono fun _ h _ => h.elim⟩
      have hlen := hn.kids.len
      have hlen' := hn'.kids.len
      have HN := Lib.hid hn
      have HN' := Lib.hid hn'
      have HKn := Lib.hid hK
      have HG := Lib.hid hG
      have HY := Lib.hid hy
      have HSUB := Lib.hid hsub
      have hlc := hn.lc
      have hcm := hn.cm
      have hlc' := hn'.lc
      have hcm' := hn'.cm
      have HNO := Lib.hid hno
      clear hv hn hn' hK hy hno hG hsub
      go_enter Try.func52, Try.ntmps52
      go_wp2_with fail
      refine hvar.mono ?_
      clear hvar
      rintro e W1 ⟨a, rfl, _, hk⟩
      have hn1 := HN.out.next hk hbs
      have hn1' := HN'.out.next hk hbs'
      have c0 := hn1.c0
      have c1 := hn1.c1
      have c2 := hn1.c2
      have c3 := hn1.c3
      have d0 := hn1'.c0
      have d1 := hn1'.c1
      have d2 := hn1'.c2
      have d3 := hn1'.c3
      have HK := Lib.hid hk
      clear hn1 hn1' hk
      by_cases hk : k = y.k
      · by_cases hnn : n = y.n
        · by_cases ht : t = y.t
          · by_cases hll : cl = cl'
            · have hl2 : ((cl : Int) != (cl' : Int)) = false := by simp [hll]
              have HEQ : Hid (k = y.k ∧ n = y.n ∧ t = y.t ∧ c.len = y.c.len) := ⟨hk, hnn, ht, by rw [hlen, hlen', hll]⟩
              rw [← hk] at d0
              rw [← hnn] at d1
              rw [← ht] at d2
              have HLEN := Lib.hid hlen
              have HLEN' := Lib.hid hlen'
              clear hk hnn ht hlen hlen'
              subst hll
              go_wp2_with fail
              go_quiet (fail)
              go_wp2_with fail
              have hkW : Keeps (fun b => b = Mb) w (W1.drewN nq) := ((HK.out.drewN nq).mono (S' := fun b => b = Mb) fun _ h _ => h.elim)
              go_loopg [87] cl (fun m i W => ∃ j : Nat, j + m = cl ∧ i = .int .i64 j ∧ ∃ bs', fitFo c y.c bs = fitFo (c.drop j) (y.c.drop j) bs' ∧ bs'.length + (c.drop j).nodes ≤ 100000 ∧ KnownJ A' Mb bs' W ∧ GoodB P bs' ∧ Keeps (fun b => b = Mb) w W)
              case atStart => exact ⟨0, by omega, rfl, bs, rfl, hl, (HKn.out.next (HK.out.drewN nq)), HG.out, hkW⟩
              case round =>
                obtain ⟨j, hjm, rfl, bs', hfe, hbl, hKr, hGr, hkr⟩ := hrel
                have hnr := HN.out.keeps hkr (fun x hx e => hA x hx e) hbs (hA b hb)
                have hnr' := HN'.out.keeps hkr (fun x hx e => hA' x hx e) hbs' (hA' b' hb')
                have k3 := hnr.c3
                have e3 := hnr'.c3
                have HM := Lib.hid hjm
                have HFE := Lib.hid hfe
                have HKR := Lib.hid hkr
                have hll' := HLEN.out
                have hll2 := HLEN'.out
                clear hjm hfe hkr c0 c1 c2 c3 d0 d1 d2 d3 hkW
                by_cases hlt : j < cl
                · obtain ⟨kb, ko, rfl, hkA, hkb⟩ := hnr.kids.hasAddr (by omega)
                  obtain ⟨kb', ko', rfl, hkA', hkb'⟩ := hnr'.kids.hasAddr (by omega)
                  obtain ⟨k1, n1, t1, s1, r1, hdr⟩ := Fo.drop_lt j c (by omega)
                  obtain ⟨k2, n2, t2, s2, r2, hdr'⟩ := Fo.drop_lt j y.c (by omega)
                  obtain ⟨cp1, cl1, cc1, hn1⟩ := hnr.kids.at_ j hdr hlt
                  obtain ⟨cp2, cl2, cc2, hn2⟩ := hnr'.kids.at_ j hdr' hlt
                  have hcN := Fo.kid_le hdr
                  have hd1 : Keeps (fun _ => False) wr wr.drew := (Keeps.refl _ wr).drew
                  have hbl2 := hbl
                  rw [hdr] at hbl2
                  simp only [Fo.nodes] at hbl2
                  have hi := ih k1 n1 t1 s1 kb (ko + j * 4) cp1 cl1 cc1 ⟨k2, n2, t2, s2⟩ kb' (ko' + j * 4) cp2 cl2 cc2 bs' wr.drew (by omega) (fun x hx => HSUB.out x (by simp only [Nd.all, List.mem_cons]; exact .inr (Fo.all_kid hdr x hx))) hkA hkb hkA' hkb' (hn1.next hd1 hkb) (hn2.next hd1 hkb') (Nd.kid_small (k := y.k) (n := y.n) (t := y.t) hdr' HY.out) (hKr.next hd1) hGr (by omega)
                  have hi0 : (0 : Int) ≤ (j : Int) := Int.natCast_nonneg _
                  have hi1 : (j : Int) < (cl : Int) := by omega
                  have hcons : Hid (fitFo (c.drop j) (y.c.drop j) bs' = if (fit1 k1 n1 t1 s1 ⟨k2, n2, t2, s2⟩ bs').2 then fitFo (c.drop (j + 1)) (y.c.drop (j + 1)) (fit1 k1 n1 t1 s1 ⟨k2, n2, t2, s2⟩ bs').1 else ((fit1 k1 n1 t1 s1 ⟨k2, n2, t2, s2⟩ bs').1, false)) := by
                    show fitFo _ _ _ = _
                    rw [Fo.drop_step hdr, Fo.drop_step hdr', hdr, hdr', fitFo_cons]
                  have hnd : Hid ((c.drop (j + 1)).nodes + s1.nodes + 1 + bs'.length ≤ 100000) := by
                    show _ ≤ _
                    rw [Fo.drop_step hdr]; omega
                  have hql := fit1_len k1 n1 t1 s1 ⟨k2, n2, t2, s2⟩ bs'
                  unfold FitR at hi
                  obtain ⟨⟨q1, q2⟩, hq⟩ : ∃ q, fit1 k1 n1 t1 s1 ⟨k2, n2, t2, s2⟩ bs' = q := ⟨_, rfl⟩
                  rw [hq] at hi hcons hql
                  dsimp only at hi hql
                  clear hdr hdr' hn1 hn2 hnr hnr' hq hKr hGr
                  go_wp2_with fail
                  go_still_tail 13, (by kernel_rfl)
                  change wpList _ _ _ _ _ wr.drew
                  cases q2 with
                  | false =>
                    go_wp2_with fail
                    refine hi.mono ?_
                    clear hi
                    rintro e W2 ⟨rfl, _, hk2⟩
                    go_wp2_with fail
                    go_ret
                    have hfin : fit1 k n t c y bs = (q1, false) := by rw [HF.out, if_pos HEQ.out, HFE.out, hcons.out]; rfl
                    rw [hfin]
                    exact ⟨rfl, fun h => by simp at h, (HKR.out.trans' hd1 (fun _ h _ => h.elim)).trans hk2⟩
                  | true =>
                    go_wp2_with fail
                    refine hi.mono ?_
                    clear hi
                    rintro e W2 ⟨rfl, hj2, hk2⟩
                    obtain ⟨hj2, hj3⟩ := hj2 trivial
                    have HJ2 := Lib.hid hj2
                    clear hj2
                    go_wp2_with fail
                    go_roundg (gk - 1)
                    case measure => have := HM.out; omega
                    case rel => exact ⟨j + 1, by have := HM.out; omega, by go_num, q1, by rw [HFE.out, hcons.out]; rfl, by have := hnd.out; omega, HJ2.out, hj3, (HKR.out.trans' hd1 (fun _ h _ => h.elim)).trans hk2⟩
                · have hjc : Hid (c.drop j = .nil ∧ y.c.drop j = .nil) := Lib.hid ⟨Fo.drop_len_le (by omega), Fo.drop_len_le (by omega)⟩
                  have HKR2 := Lib.hid hKr
                  clear hnr hnr' hKr hll' hll2
                  go_wp2_with fail
                  go_ret
                  have hfin : fit1 k n t c y bs = (bs', true) := by rw [HF.out, if_pos HEQ.out, HFE.out, hjc.out.1, hjc.out.2]; rfl
                  rw [hfin]
                  exact ⟨rfl, fun _ => ⟨HKR2.out, hGr⟩, HKR.out⟩
            · have hl2 : ((cl : Int) != (cl' : Int)) = true := by simp; omega
              have hne : Hid (¬ (k = y.k ∧ n = y.n ∧ t = y.t ∧ c.len = y.c.len)) := Lib.hid fun h => hll (by rw [← hlen, ← hlen']; exact h.2.2.2)
              rw [← hk] at d0
              rw [← hnn] at d1
              rw [← ht] at d2
              clear hk hnn ht hlen hlen' hll
              go_wp2_with fail
              go_quiet (fail)
              go_wp2_with fail
              go_ret
              exact HNO.out hne.out _ _ rfl (HK.out.drewN _)
          · have hne : Hid (¬ (k = y.k ∧ n = y.n ∧ t = y.t ∧ c.len = y.c.len)) := Lib.hid fun h => ht h.2.2.1
            have h1 := txt_ne ht
            rw [← hk] at d0
            rw [← hnn] at d1
            clear hk hnn ht hlen hlen'
            go_wp2_with fail
            go_quiet (fail)
            go_wp2_with fail
            go_ret
            exact HNO.out hne.out _ _ rfl (HK.out.drewN _)
        · have hne : Hid (¬ (k = y.k ∧ n = y.n ∧ t = y.t ∧ c.len = y.c.len)) := Lib.hid fun h => hnn h.2.1
          have h1 := num_ne hnn
          rw [← hk] at d0
          clear hk hnn hlen hlen'
          go_wp2_with fail
          go_quiet (fail)
          go_wp2_with fail
          go_ret
          exact HNO.out hne.out _ _ rfl (HK.out.drewN _)
      · have hne : Hid (¬ (k = y.k ∧ n = y.n ∧ t = y.t ∧ c.len = y.c.len)) := Lib.hid fun h => hk h.1
        have h1 := txt_ne hk
        clear hk hlen hlen'
        go_wp2_with fail
        go_quiet (fail)
        go_wp2_with fail
        go_ret
        exact HNO.out hne.out _ _ rfl (HK.out.drewN _)
end Go.Proofs.Ytccoihmibkpedaa
