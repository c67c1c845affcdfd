/-
  match.variable, right, allows, each: their walks.
-/
import Derived.Test.YtccoihmibkpedaaMatP

import Derived.Test.YtccoihmibkpedaaMapS

set_option linter.unusedVariables false

set_option linter.unusedSimpArgs false

namespace Go.Proofs.Ytccoihmibkpedaa

open Go.RowKit

theorem varF_some {k nm : ByteArray} (h : varF k = some nm) : kindB k.data.toList = true ∧ (cutB k).1 = anyK ∧ nm = (cutB k).2.1 := by
  unfold varF at h
  split at h
  · rename_i h1; exact ⟨h1.1, h1.2, by simpa using h.symm⟩
  · simp at h
theorem varF_size {k nm : ByteArray} (h : varF k = some nm) (hk : k.size ≤ 140737488351232) : nm.size ≤ 140737488351232 := by
  rw [(varF_some h).2.2]; exact (cutB_size k hk).2
/-- What 'variable' tells. -/
def VarR (k : ByteArray) (w : World) (e : Ending) (w' : World) : Prop := ∃ a, e = .returned (.tuple #[.string a, .bool (varF k).isSome]) ∧ (∀ nm, varF k = some nm → a = nm) ∧ Keeps (fun _ => False) w w'
set_option maxRecDepth 100000 in
theorem variable_any (A : Nat → Prop) (k : ByteArray) (n : Int) (t : ByteArray) (c : Fo) (b o : Nat) (cp : Option Addr) (cl cc : Nat) (w : World) (hn : NodeAt w A b o k n t c cp cl cc) :
    Calls Try.prog 59 #[.pointer (some ⟨b, o, none⟩)] w (VarR k w) := by
  have hk := Kind_full k w hn.size.2
  have c0 := hn.c0
  clear hn
  obtain ⟨kb, hkb⟩ : ∃ b, kindB k.data.toList = b := ⟨_, rfl⟩
  unfold KindS at hk
  rw [hkb] at hk
  have HK := Lib.hid hkb
  clear hkb
  go_enter Try.func59, Try.ntmps59
  go_wp2_with fail
  refine hk.mono ?_
  clear hk
  rintro e W ⟨a, b, rfl, hab, hkw⟩
  cases kb with
  | false =>
    have hv : Hid (varF k = none) := by show varF k = none; rw [varF, if_neg (by rw [HK.out]; simp)]
    clear hab
    go_wp2_with fail
    go_ret2
    exact ⟨_, by rw [hv.out]; rfl, fun nm h => by rw [hv.out] at h; simp at h, hkw⟩
  | true =>
    obtain ⟨ha, hb⟩ := hab rfl
    have HB := Lib.hid hb
    clear hab hb
    by_cases hc : a = anyK
    · have hv : Hid (varF k = some b) := by show varF k = some b; rw [varF, if_pos ⟨HK.out, by rw [← ha, hc]⟩, HB.out]
      clear ha
      subst hc
      go_wp2_with fail
      go_ret2
      exact ⟨_, by rw [hv.out]; rfl, fun nm h => by rw [hv.out] at h; simpa using h, hkw⟩
    · have hv : Hid (varF k = none) := by show varF k = none; rw [varF, if_neg (fun h => hc (ha.trans h.2))]
      have hne : (a.toList == [97, 110, 121]) = false := by
        have := txt_ne hc
        rwa [show anyK.toList = [97, 110, 121] by rw [ByteArray.toList_eq]] at this
      clear ha hc
      go_wp2_with fail
      go_ret2
      exact ⟨_, by rw [hv.out]; rfl, fun nm h => by rw [hv.out] at h; simp at h, hkw⟩
set_option maxRecDepth 100000 in
theorem right_any (A : Nat → Prop) (k : ByteArray) (n : Int) (t : ByteArray) (c : Fo) (b o : Nat) (cp : Option Addr) (cl cc : Nat) (w : World) (hn : NodeAt w A b o k n t c cp cl cc) :
    Calls Try.prog 71 #[.pointer (some ⟨b, o, none⟩)] w fun e w' => e = .returned (.bool (rightF ⟨k, n, t, c⟩)) ∧ Keeps (fun _ => False) w w' := by
  have hk := Kind_full t w hn.size.1
  have c1 := hn.c1
  have c2 := hn.c2
  have c3 := hn.c3
  have hcl := hn.kids.len
  have hcm := hn.lc
  have hcm2 := hn.cm
  clear hn
  by_cases h0 : 0 < cl
  · have hr : Hid (rightF ⟨k, n, t, c⟩ = false) := by
      show rightF ⟨k, n, t, c⟩ = false
      simp only [rightF]
      rw [show decide (c.len = 0) = false by simp; omega]; rfl
    clear hcl
    go_enter Try.func71, Try.ntmps71
    go_wp2_with fail
    go_ret
    exact ⟨by rw [hr.out]; rfl, Keeps.refl _ _⟩
  · have hz : cl = 0 := by omega
    have hcz : Hid (decide (c.len = 0) = true) := by show decide (c.len = 0) = true; simp; omega
    subst hz
    clear hcl
    by_cases h1 : n = 0 ∨ n = 1
    · have hr : Hid (rightF ⟨k, n, t, c⟩ = decide (t.size = 0)) := by
        show rightF ⟨k, n, t, c⟩ = decide (t.size = 0)
        simp only [rightF]
        rw [hcz.out]
        simp [h1]
        intro h; omega
      by_cases ht : t = ⟨#[]⟩
      · subst ht
        rcases h1 with rfl | rfl
        all_goals
          go_enter Try.func71, Try.ntmps71
          go_wp2_with fail
          go_ret
          exact ⟨by rw [hr.out]; rfl, Keeps.refl _ _⟩
      · have htn := txt_ne ht
        have hts : Hid (decide (t.size = 0) = false) := by
          show decide (t.size = 0) = false
          rw [decide_eq_false_iff_not]
          intro h
          apply ht
          have h2 : t.data.size = 0 := h
          cases t with | mk d => have h3 := Array.eq_empty_of_size_eq_zero h2; simp only at h3; rw [h3]
        have ht1 : t.toList ≠ [] := fun h => by
          apply ht
          rw [ByteArray.toList_eq] at h
          cases t with | mk d => cases d; simp_all
        have ht2 : t.toList.isEmpty = false := by simpa using ht1
        rcases h1 with rfl | rfl
        all_goals
          go_enter Try.func71, Try.ntmps71
          go_wp2_with fail
          go_ret
          exact ⟨by rw [hr.out, hts.out]; rfl, Keeps.refl _ _⟩
    · have n0 : (n == 0) = false := by simp; omega
      have n1 : (n == 1) = false := by simp; omega
      by_cases h2 : n = 2
      · have hr : Hid (rightF ⟨k, n, t, c⟩ = kindB t.data.toList) := by
          show rightF ⟨k, n, t, c⟩ = _
          simp only [rightF]
          rw [hcz.out]
          simp [h1, h2]
        subst h2
        clear n0 n1 h1
        go_enter Try.func71, Try.ntmps71
        go_wp2_with fail
        refine hk.mono ?_
        clear hk
        rintro e W ⟨a, b, rfl, _, hkw⟩
        go_wp2_with fail
        go_ret
        exact ⟨by rw [hr.out]; rfl, hkw⟩
      · have n2 : (n == 2) = false := by simp; omega
        have hr : Hid (rightF ⟨k, n, t, c⟩ = false) := by
          show rightF ⟨k, n, t, c⟩ = _
          simp only [rightF]
          simp [h1, h2]
        go_enter Try.func71, Try.ntmps71
        go_wp2_with fail
        go_ret
        exact ⟨by rw [hr.out]; rfl, Keeps.refl _ _⟩
set_option maxRecDepth 100000 in
theorem allows_any (A A' : Nat → Prop) (k k' : ByteArray) (n n' : Int) (t t' : ByteArray) (c c' : Fo) (b o b' o' : Nat) (cp cp' : Option Addr) (cl cc cl' cc' : Nat) (w : World) (hn : NodeAt w A b o k n t c cp cl cc) (hn' : NodeAt w A' b' o' k' n' t' c' cp' cl' cc') (h3 : n = 0 ∨ n = 1 ∨ n = 2) :
    Calls Try.prog 60 #[.pointer (some ⟨b, o, none⟩), .pointer (some ⟨b', o', none⟩)] w fun e w' => e = .returned (.bool (likeF n t ⟨k', n', t', c'⟩)) ∧ Keeps (fun _ => False) w w' := by
  have c1 := hn.c1
  have c2 := hn.c2
  have d0 := hn'.c0
  have d3 := hn'.c3
  have hcl := hn'.kids.len
  have hcm := hn'.lc
  have hcm2 := hn'.cm
  clear hn hn'
  rcases h3 with rfl | rfl | rfl
  · go_enter Try.func60, Try.ntmps60
    go_wp2_with fail
    go_ret
    exact ⟨by simp [likeF], Keeps.refl _ _⟩
  · have hr : Hid (likeF 1 t ⟨k', n', t', c'⟩ = decide (cl' = 0)) := by show likeF _ _ _ = _; simp [likeF, hcl]
    clear hcl
    by_cases h0 : cl' = 0
    · subst h0
      go_enter Try.func60, Try.ntmps60
      go_wp2_with fail
      go_ret
      exact ⟨by rw [hr.out]; rfl, Keeps.refl _ _⟩
    · have hz : ((cl' : Int) == 0) = false := by simp; omega
      go_enter Try.func60, Try.ntmps60
      go_wp2_with fail
      go_ret
      exact ⟨by rw [hr.out]; simp [h0], Keeps.refl _ _⟩
  · have hr : Hid (likeF 2 t ⟨k', n', t', c'⟩ = decide (k' = t)) := by show likeF _ _ _ = _; simp [likeF]
    clear hcl
    by_cases h0 : k' = t
    · subst h0
      go_enter Try.func60, Try.ntmps60
      go_wp2_with fail
      go_quiet (fail)
      go_wp2_with fail
      go_ret
      exact ⟨by rw [hr.out]; simp, (Keeps.refl _ _).drewN _⟩
    · have hz := txt_ne h0
      go_enter Try.func60, Try.ntmps60
      go_wp2_with fail
      go_quiet (fail)
      go_wp2_with fail
      go_ret
      exact ⟨by rw [hr.out]; simp [h0], (Keeps.refl _ _).drewN _⟩

theorem Fo.all_kid {c : Fo} {j : Nat} {k1 n1 t1 s1 r1} (hd : c.drop j = .cons k1 n1 t1 s1 r1) : ∀ x ∈ Nd.all ⟨k1, n1, t1, s1⟩, x ∈ c.all := by
  induction c generalizing j with
  | nil => rw [Fo.drop_nil] at hd; simp at hd
  | cons k' n' t' s' r' _ ih =>
    intro x hx
    cases j with
    | zero =>
      simp only [Fo.drop] at hd
      injection hd with e1 e2 e3 e4 e5
      subst e1 e2 e3 e4 e5
      simp only [Nd.all, List.mem_cons] at hx
      simp only [Fo.all, List.mem_cons, List.mem_append]
      exact hx.imp_right .inl
    | succ j =>
      have := ih (j := j) hd x hx
      simp only [Fo.all, List.mem_cons, List.mem_append]
      exact .inr (.inr this)
/-- A function that is told each node: f: what it answers; J: what it keeps, in blocks of which S holds. -/
structure Tell (I : Nd → Prop) (A S : Nat → Prop) (J : List Nd → World → Prop) (f : List Nd → Nd → Bool) (g : Nat) (cap : Array Value) : Prop where
  enters : ∀ args w, (callFunc g args).run Try.prog w = .ok (.enter g args) w
  apart : ∀ b, A b → ¬ S b
  calls : ∀ l W b o k n t c cp cl cc, I ⟨k, n, t, c⟩ → l.length < 1024 → (vis f [] l).2 = true → J l W → A b → b < W.heap.size → NodeAt W A b o k n t c cp cl cc →
    Calls Try.prog g (#[.pointer (some ⟨b, o, none⟩)] ++ cap) W fun e W' => e = .returned (.bool (f l ⟨k, n, t, c⟩)) ∧ (f l ⟨k, n, t, c⟩ = true → J (l ++ [⟨k, n, t, c⟩]) W') ∧ Keeps S W W'
def EachT (S : Nat → Prop) (J : List Nd → World → Prop) (f : List Nd → Nd → Bool) (l xs : List Nd) (w : World) (e : Ending) (w' : World) : Prop :=
  e = .returned (.bool (vis f l xs).2) ∧ ((vis f l xs).2 = true → J (l ++ xs) w') ∧ Keeps S w w'
theorem vis_kid {f : List Nd → Nd → Bool} {l : List Nd} {c : Fo} {j : Nat} {k1 n1 t1 s1 r1} (hd : c.drop j = .cons k1 n1 t1 s1 r1) :
    vis f l (c.drop j).all = if (vis f l (Nd.all ⟨k1, n1, t1, s1⟩)).2 then vis f (l ++ Nd.all ⟨k1, n1, t1, s1⟩) (c.drop (j + 1)).all else vis f l (Nd.all ⟨k1, n1, t1, s1⟩) := by
  rw [Fo.drop_step hd, hd]
  have : (Fo.cons k1 n1 t1 s1 r1).all = Nd.all ⟨k1, n1, t1, s1⟩ ++ r1.all := by simp [Fo.all, Nd.all]
  rw [this, vis_append]
  split
  · rename_i h; rw [vis_true h]
  · rfl
set_option maxRecDepth 100000 in
set_option maxHeartbeats 1600000 in
theorem each_any (I : Nd → Prop) (A S : Nat → Prop) (J : List Nd → World → Prop) (f : List Nd → Nd → Bool) (g : Nat) (cap : Array Value) (ht : Tell I A S J f g cap) : ∀ (N : Nat) (k : ByteArray) (n : Int) (t : ByteArray) (c : Fo) (b o : Nat) (cp : Option Addr) (cl cc : Nat) (l : List Nd) (w : World), c.nodes < N → (∀ x ∈ Nd.all ⟨k, n, t, c⟩, I x) →
    l.length + c.nodes < 1024 → (vis f [] l).2 = true → J l w → A b → b < w.heap.size → NodeAt w A b o k n t c cp cl cc →
    Calls Try.prog 57 #[.pointer (some ⟨b, o, none⟩), .func (.func g) #[] cap] w (EachT S J f l (Nd.all ⟨k, n, t, c⟩) w) := by
  intro N
  induction N with
  | zero => intros; omega
  | succ N ih =>
    intro k n t c b o cp cl cc l w hN hI hl hv hJ hb hbs hn
    have HI := Lib.hid hI
    have hcall := ht.calls l w b o k n t c cp cl cc (hI _ (by simp [Nd.all])) (by omega) hv hJ hb hbs hn
    have hen := ht.enters
    have HV := Lib.hid hv
    have HL := Lib.hid hl
    have HJ0 := Lib.hid hJ
    have HC : Hid (vis f l (Nd.all ⟨k, n, t, c⟩) = if f l ⟨k, n, t, c⟩ then vis f (l ++ [⟨k, n, t, c⟩]) c.all else (l ++ [⟨k, n, t, c⟩], false)) := Lib.hid rfl
    have HS : Hid ((vis f [] (l ++ [⟨k, n, t, c⟩])).2 = f l ⟨k, n, t, c⟩) := Lib.hid (vis_snoc hv)
    clear hv hl hJ hI
    obtain ⟨r, hr⟩ : ∃ r, f l ⟨k, n, t, c⟩ = r := ⟨_, rfl⟩
    rw [hr] at hcall HC HS
    clear hr
    cases r with
    | false =>
      go_enter Try.func57, Try.ntmps57
      go_wp2_with fail
      refine hcall.mono ?_
      clear hcall
      rintro e W ⟨rfl, _, hk⟩
      go_wp2_with fail
      go_ret
      refine ⟨?_, ?_, hk⟩
      · rw [HC.out]; rfl
      · intro h; rw [HC.out] at h; simp at h
    | true =>
      go_enter Try.func57, Try.ntmps57
      go_wp2_with fail
      refine hcall.mono ?_
      clear hcall
      rintro e W ⟨rfl, hJ, hk⟩
      have hJ := hJ trivial
      have hnW := hn.keeps hk ht.apart hbs (ht.apart b hb)
      have k3 := hnW.c3
      have hlc := hnW.lc
      have hcm := hnW.cm
      have HK := Lib.hid hk
      have HJ1 := Lib.hid hJ
      have HN := Lib.hid hn
      clear hk hJ hn hnW hen
      go_wp2_with fail
      go_loopg [15] cl (fun m i W => ∃ j : Nat, j + m = cl ∧ i = .int .i64 j ∧ ∃ l', (vis f [] l').2 = true ∧ l'.length + (c.drop j).nodes ≤ 1024 ∧ vis f l (Nd.all ⟨k, n, t, c⟩) = vis f l' (c.drop j).all ∧ l ++ Nd.all ⟨k, n, t, c⟩ = l' ++ (c.drop j).all ∧ J l' W ∧ Keeps S w W)
      case atStart => exact ⟨0, by omega, rfl, l ++ [⟨k, n, t, c⟩], HS.out, by have := HL.out; simp only [List.length_append, List.length_cons, List.length_nil, Fo.drop]; omega, by rw [HC.out]; rfl, by simp [Nd.all, Fo.drop], HJ1.out, HK.out⟩
      case round =>
        obtain ⟨j, hjm, rfl, l', hv', hl', hvv, hll, hJ', hk'⟩ := hrel
        have hnr := HN.out.keeps hk' ht.apart hbs (ht.apart b hb)
        have k3 := hnr.c3
        have HM := Lib.hid hjm
        have HV2 := Lib.hid hv'
        have HL2 := Lib.hid hl'
        have HVV := Lib.hid hvv
        have HLL := Lib.hid hll
        have HK2 := Lib.hid hk'
        have HJ2 := Lib.hid hJ'
        clear hjm hv' hl' hvv hll hk' hJ'
        by_cases hlt : j < cl
        · obtain ⟨kb, ko, rfl, hkb, hkbs⟩ := hnr.kids.hasAddr (by omega)
          obtain ⟨k1, n1, t1, s1, r1, hdr⟩ := Fo.drop_lt j c (by rw [hnr.kids.len]; exact hlt)
          obtain ⟨cp1, cl1, cc1, hn1⟩ := hnr.kids.at_ j hdr hlt
          have hIk : ∀ x ∈ Nd.all ⟨k1, n1, t1, s1⟩, I x := fun x hx => HI.out x (by
            have : x ∈ c.all := Fo.all_kid hdr x hx
            simp only [Nd.all, List.mem_cons]; exact .inr this)
          have hsN : s1.nodes < N := by
            have h1 := Fo.nodes_drop j c
            rw [hdr] at h1
            simp only [Fo.nodes] at h1
            omega
          have hi := ih k1 n1 t1 s1 kb (ko + j * 4) cp1 cl1 cc1 l' wr hsN hIk (by have h1 := HL2.out; rw [hdr] at h1; simp only [Fo.nodes] at h1; omega) HV2.out HJ2.out hkb hkbs hn1
          have HKid := Lib.hid (vis_kid (f := f) (l := l') hdr)
          have HD := Lib.hid hdr
          have hi0 : (0 : Int) ≤ (j : Int) := Int.natCast_nonneg _
          have hi1 : (j : Int) < (cl : Int) := by omega
          clear hn1 hdr hnr hIk
          unfold EachT at hi
          obtain ⟨r, hr⟩ : ∃ r, (vis f l' (Nd.all ⟨k1, n1, t1, s1⟩)).2 = r := ⟨_, rfl⟩
          rw [hr] at hi
          have HR := Lib.hid hr
          clear hr
          cases r with
          | false =>
            go_wp2_with fail
            refine hi.mono ?_
            clear hi
            rintro e W2 ⟨rfl, _, hk2⟩
            go_wp2_with fail
            go_ret
            have hfin : vis f l (Nd.all ⟨k, n, t, c⟩) = vis f l' (Nd.all ⟨k1, n1, t1, s1⟩) := by rw [HVV.out, HKid.out, HR.out]; rfl
            refine ⟨?_, ?_, HK2.out.trans hk2⟩
            · rw [hfin, HR.out]; rfl
            · intro h; rw [hfin, HR.out] at h; simp at h
          | true =>
            go_wp2_with fail
            refine hi.mono ?_
            clear hi
            rintro e W2 ⟨rfl, hj2, hk2⟩
            have HJ3 := Lib.hid (hj2 trivial)
            clear hj2
            go_wp2_with fail
            go_roundg (gk - 1)
            case measure => have := HM.out; omega
            case rel =>
              refine ⟨j + 1, by have := HM.out; omega, by go_num, l' ++ Nd.all ⟨k1, n1, t1, s1⟩, ?_, ?_, ?_, ?_, HJ3.out, HK2.out.trans hk2⟩
              · rw [vis_append, if_pos HV2.out, vis_true HV2.out, List.nil_append]; exact HR.out
              · have h1 := HL2.out
                rw [HD.out] at h1
                rw [Fo.drop_step HD.out, List.length_append, Nd.all, List.length_cons, Fo.all_len]
                simp only [Fo.nodes] at h1
                show l'.length + (s1.nodes + 1) + r1.nodes ≤ 1024
                omega
              · rw [HVV.out, HKid.out, HR.out]; rfl
              · rw [HLL.out, HD.out, Fo.drop_step HD.out]
                simp [Fo.all, Nd.all]
        · have hjc : Hid (c.drop j = .nil) := Lib.hid (Fo.drop_len_le (by rw [hnr.kids.len]; omega))
          clear hnr
          go_wp2_with fail
          go_ret
          have hfin : vis f l (Nd.all ⟨k, n, t, c⟩) = (l', true) := by rw [HVV.out, hjc.out]; rfl
          refine ⟨?_, fun _ => ?_, HK2.out⟩
          · rw [hfin]; rfl
          · rw [HLL.out, hjc.out]; simpa [Fo.all] using HJ2.out
end Go.Proofs.Ytccoihmibkpedaa
