/-
  MatchOpen's plain law: a further variable in the place of any part.
-/
import Derived.Test.YtccoihmibkpedaaPkF

import Derived.Test.YtccoihmibkpedaaAhead

import Derived.Test.YtccoihmibkpedaaUses

import Derived.Lib.IndexLaws

set_option linter.unusedVariables false

set_option linter.unusedSimpArgs false

namespace Go.Proofs.Ytccoihmibkpedaa

open Go.RowKit

abbrev kQ : ByteArray := ⟨#[97, 110, 121, 46, 113, 48]⟩
abbrev nQ : ByteArray := ⟨#[113, 48]⟩
theorem varQ : varF kQ = some nQ := by decide
theorem kindQ : kindB kQ.data.toList = true := by decide
/-- A variable's kind is told by its name. -/
theorem var_inj {k k' nm : ByteArray} (h : varF k = some nm) (h' : varF k' = some nm) : k = k' := by
  have key : ∀ {k nm : ByteArray}, varF k = some nm → k.data.toList = anyK.data.toList ++ 46 :: nm.data.toList := by
    intro k nm h
    unfold varF at h
    split at h
    · rename_i hh
      obtain ⟨hk, hc⟩ := hh
      simp only [Option.some.injEq] at h
      unfold cutB at hc h
      by_cases h0 : 0 ≤ dotAt k
      · rw [if_pos h0] at hc h
        simp only at hc h
        obtain ⟨d, hd⟩ : ∃ d : Nat, dotAt k = (d : Int) := ⟨(dotAt k).toNat, by omega⟩
        rw [hd] at hc h
        simp only [Int.toNat_natCast] at hc h
        have hi : k.data.toList[d]? = some 46 := (Lib.indexByte_some (l := k.data.toList) (c := 46) (o := d) hd).1
        have hlt : d < k.data.toList.length := (List.getElem?_eq_some_iff.1 hi).1
        have e1 : anyK.data.toList = k.data.toList.take d := by
          rw [← hc]
          simp [ByteArray.data_extract]
        have e2 : nm.data.toList = k.data.toList.drop (d + 1) := by
          rw [← h]
          simp only [ByteArray.data_extract, Array.toList_extract, List.extract_eq_take_drop]
          rw [List.take_of_length_le (by simp only [List.length_drop, Array.length_toList]; exact Nat.le_refl _)]
        rw [e1, e2]
        have := (List.getElem?_eq_some_iff.1 hi).2
        conv => lhs; rw [← List.take_append_drop d k.data.toList]
        rw [List.drop_eq_getElem_cons hlt, this]
      · rw [if_neg h0] at hc h
        simp only at h
        exfalso
        unfold kindB at hk
        have : Lib.indexByte k.data.toList 46 < 0 := by unfold dotAt at h0; omega
        rw [if_pos this] at hk
        simp at hk
    · simp at h
  have e := (key h).trans (key h').symm
  cases k; cases k'
  simp only [ByteArray.mk.injEq] at *
  exact Array.toList_inj.1 e

/-! The nodes of a tree. -/

theorem Fo.kinds_all (f : Fo) : f.kinds = f.all.map (·.k) := by
  induction f with
  | nil => rfl
  | cons k n t c r hc hr => simp [Fo.kinds, Fo.all, hc, hr]
theorem Nd.kinds_all (x : Nd) : x.k :: x.c.kinds = x.all.map (·.k) := by simp [Nd.all, Fo.kinds_all]
theorem usesFo_all (q : ByteArray) (f : Fo) : usesFo q f = f.all.any (fun a => decide (a.k = q)) := by
  induction f with
  | nil => rfl
  | cons k n t c r hc hr => simp [usesFo, Fo.all, hc, hr, Bool.or_assoc]
theorem usesF_all (q : ByteArray) (x : Nd) : usesF q x.k x.c = x.all.any (fun a => decide (a.k = q)) := by simp [usesF, usesFo_all, Nd.all]
theorem Fo.at?_all : ∀ (f : Fo) (i : Nat) (y : Nd), f.at? i = some y → ∀ a ∈ y.all, a ∈ f.all
  | .nil, i, y, h, a, ha => by simp [Fo.at?] at h
  | .cons k n t c r, 0, y, h, a, ha => by
    simp only [Fo.at?, Option.some.injEq] at h
    subst h
    simp only [Nd.all, List.mem_cons] at ha
    simp only [Fo.all, List.mem_cons, List.mem_append]
    rcases ha with h | h
    · exact .inl h
    · exact .inr (.inl h)
  | .cons k n t c r, i + 1, y, h, a, ha => by
    have := Fo.at?_all r i y h a ha
    simp only [Fo.all, List.mem_cons, List.mem_append]
    exact .inr (.inr this)
theorem Fo.set_all : ∀ (f : Fo) (i : Nat) (z : Nd), ∀ a ∈ (f.set i z).all, a ∈ z.all ∨ a ∈ f.all
  | .nil, i, z, a, ha => by simp [Fo.set, Fo.all] at ha
  | .cons k n t c r, 0, z, a, ha => by
    simp only [Fo.set, Fo.all, List.mem_cons, List.mem_append] at ha
    simp only [Nd.all, Fo.all, List.mem_cons, List.mem_append]
    rcases ha with h | h | h
    · exact .inl (.inl h)
    · exact .inl (.inr h)
    · exact .inr (.inr (.inr h))
  | .cons k n t c r, i + 1, z, a, ha => by
    simp only [Fo.set, Fo.all, List.mem_cons, List.mem_append] at ha
    simp only [Fo.all, List.mem_cons, List.mem_append]
    rcases ha with h | h | h
    · exact .inr (.inl h)
    · exact .inr (.inr (.inl h))
    · rcases Fo.set_all r i z a h with h | h
      · exact .inl h
      · exact .inr (.inr (.inr h))
theorem kid_at {f : Fo} {i : Int} {y : Nd} (h : f.kid i = some y) : f.at? i.toNat = some y := by
  unfold Fo.kid at h
  split at h
  · simp at h
  · exact h
theorem put_all : ∀ (path : List Int) (x z y : Nd), sub path x = some y → (∀ a ∈ x.all, (varF a.k).isSome → a.c = .nil) → ∀ a ∈ (put path x z).all, a ∈ z.all ∨ a ∈ x.all ∨ (varF a.k = none ∧ ∃ b ∈ x.all, b.k = a.k)
  | [], x, z, y, _, _, a, ha => .inl ha
  | i :: r, x, z, y, hs, hl, a, ha => by
    simp only [sub] at hs
    cases hk : x.c.kid i with
    | none => rw [hk] at hs; simp at hs
    | some y1 =>
      rw [hk] at hs
      rw [put_cons z hk] at ha
      have hnv : varF x.k = none := by
        cases hv : varF x.k with
        | none => rfl
        | some nm =>
          have := hl x (by simp [Nd.all]) (by rw [hv]; rfl)
          rw [this] at hk
          simp [Fo.kid, Fo.at?] at hk
      have hsub : ∀ b ∈ y1.all, b ∈ x.all := fun b hb => by
        have := Fo.at?_all x.c _ _ (kid_at hk) b hb
        simp only [Nd.all, List.mem_cons]
        exact .inr this
      simp only [Nd.all, List.mem_cons] at ha
      rcases ha with h | h
      · exact .inr (.inr ⟨by rw [h]; exact hnv, x, by simp [Nd.all], by rw [h]⟩)
      · rcases Fo.set_all _ _ _ a h with h | h
        · rcases put_all r y1 z y hs (fun b hb => hl b (hsub b hb)) a h with h | h | ⟨h, b, hb, h2⟩
          · exact .inl h
          · exact .inr (.inl (hsub a h))
          · exact .inr (.inr ⟨h, b, hsub b hb, h2⟩)
        · exact .inr (.inl (by simp only [Nd.all, List.mem_cons]; exact .inr h))
theorem put_self : ∀ (path : List Int) (x y : Nd), sub path x = some y → put path x y = x
  | [], x, y, h => by simp only [sub, Option.some.injEq] at h; rw [h]; rfl
  | i :: r, x, y, h => by
    simp only [sub] at h
    cases hk : x.c.kid i with
    | none => rw [hk] at h; simp at h
    | some z =>
      rw [hk] at h
      rw [put_cons y hk, put_self r z y h]
      rw [Fo.set_self _ _ _ (kid_at hk)]

/-! Filling. -/

theorem fillFo_at (bs : List Bind) : ∀ (f : Fo) (i : Nat) (y : Nd), f.at? i = some y → (fillFo bs f).at? i = some (fill1 bs y)
  | .nil, i, y, h => by simp [Fo.at?] at h
  | .cons k n t c r, 0, y, h => by
    simp only [Fo.at?, Option.some.injEq] at h
    subst h
    rw [fillFo_cons]
    rfl
  | .cons k n t c r, i + 1, y, h => by
    rw [fillFo_cons]
    exact fillFo_at bs r i y h
theorem fillFo_set (bs : List Bind) : ∀ (f : Fo) (i : Nat) (z : Nd), fillFo bs (f.set i z) = (fillFo bs f).set i (fill1 bs z)
  | .nil, i, z => rfl
  | .cons k n t c r, 0, z => by
    simp only [Fo.set]
    rw [fillFo_cons, fillFo_cons]
    rfl
  | .cons k n t c r, i + 1, z => by
    simp only [Fo.set]
    rw [fillFo_cons, fillFo_cons, fillFo_set bs r i z]
    rfl
theorem fillFo_kid (bs : List Bind) {f : Fo} {i : Int} {y : Nd} (h : f.kid i = some y) : (fillFo bs f).kid i = some (fill1 bs y) := by
  unfold Fo.kid at h ⊢
  split at h
  · simp at h
  · rw [if_neg (by assumption)]
    exact fillFo_at bs f _ y h
theorem fill_put (bs : List Bind) : ∀ (path : List Int) (x z y : Nd), sub path x = some y → (∀ a ∈ x.all, (varF a.k).isSome → a.c = .nil) → fill1 bs (put path x z) = put path (fill1 bs x) (fill1 bs z)
  | [], x, z, y, _, _ => rfl
  | i :: r, x, z, y, hs, hl => by
    simp only [sub] at hs
    cases hk : x.c.kid i with
    | none => rw [hk] at hs; simp at hs
    | some y1 =>
      rw [hk] at hs
      have hnv : varF x.k = none := by
        cases hv : varF x.k with
        | none => rfl
        | some nm =>
          have := hl x (by simp [Nd.all]) (by rw [hv]; rfl)
          rw [this] at hk
          simp [Fo.kid, Fo.at?] at hk
      have hf : fill1 bs x = ⟨x.k, x.n, x.t, fillFo bs x.c⟩ := by unfold fill1; rw [hnv]
      rw [put_cons z hk, hf, put_cons (x := ⟨x.k, x.n, x.t, fillFo bs x.c⟩) _ (fillFo_kid bs hk)]
      have hf2 : ∀ c, fill1 bs ⟨x.k, x.n, x.t, c⟩ = ⟨x.k, x.n, x.t, fillFo bs c⟩ := fun c => by unfold fill1; simp only [hnv]
      rw [hf2, fillFo_set, fill_put bs r y1 z y hs (fun b hb => hl b (by
        have := Fo.at?_all x.c _ _ (kid_at hk) b hb
        simp only [Nd.all, List.mem_cons]
        exact .inr this))]
/-- What is filled from a list that says as much as what was told makes the tree again. -/
theorem fit1_fillE {p t : Nd} {bs : List Bind} (h : (fit1 p.k p.n p.t p.c t []).2 = true) (he : Ext (fit1 p.k p.n p.t p.c t []).1 bs) : fill1 bs p = t := by
  have h0 := fit1_fill h
  unfold fit1 at h he
  cases hv : varF p.k with
  | some nm =>
    rw [hv] at h he
    simp only at h he
    have := he nm t ((bindF_ext).2 h)
    unfold fill1
    simp only [hv, this, Option.getD_some]
  | none =>
    rw [hv] at h he
    simp only at h he
    split at h
    · rename_i hh
      rw [if_pos hh] at he
      have := (fitFo_fill p.c t.c []).2 hh.2.2.2 h bs he
      unfold fill1
      simp only [hv, this]
      exact Nd.ext' hh.1 hh.2.1 hh.2.2.1 rfl
    · simp at h
/-- Every variable is bound, and as it says. -/
theorem fit_like {p t : Nd} (hp : pmayF p = 0) (hf : (fit1 p.k p.n p.t p.c t []).2 = true) : ∀ x ∈ p.all, ∀ nm, varF x.k = some nm → ∃ y, bget (fit1 p.k p.n p.t p.c t []).1 nm = some y ∧ likeF x.n x.t y = true := by
  intro x hx nm hv
  have hpo := patOK_of hp
  have hn := fit1_names hpo hf
  have hm : nm ∈ (nts p.all).map (·.1) := List.mem_map.2 ⟨(nm, x.n, x.t), (nts_from (pmayF_zero hp).2 _).2 ⟨x, hx, hv, rfl⟩, rfl⟩
  rw [← hn] at hm
  cases hb : bget (fit1 p.k p.n p.t p.c t []).1 nm with
  | none => exact absurd hm (bget_none hb)
  | some y =>
    refine ⟨y, rfl, ?_⟩
    obtain ⟨_, x', hx', hv', hl⟩ := fit1_all (nm, y) (bget_some hb).2
    obtain ⟨e1, e2⟩ := hpo.same x hx x' hx' nm hv hv'
    rw [e1, e2]
    exact hl
/-- A pattern fits what it is filled with. -/
theorem fits_fill1 {p : Nd} {bs : List Bind} (hlike : ∀ x ∈ p.all, ∀ nm, varF x.k = some nm → ∃ y, bget bs nm = some y ∧ likeF x.n x.t y = true) : (fit1 p.k p.n p.t p.c (fill1 bs p) []).2 = true ∧ Ext (fit1 p.k p.n p.t p.c (fill1 bs p) []).1 bs := by
  have hE : Ext [] bs := fun nm y hy => by simp [bget] at hy
  unfold fit1
  cases hv : varF p.k with
  | some nm =>
    obtain ⟨y, hb, hl⟩ := hlike p (by simp [Nd.all]) nm hv
    have hf : fill1 bs p = y := by unfold fill1; simp only [hv, hb, Option.getD_some]
    rw [hf]
    exact bindF_ok hb hl hE
  | none =>
    have hf : fill1 bs p = ⟨p.k, p.n, p.t, fillFo bs p.c⟩ := by unfold fill1; simp only [hv]
    rw [hf]
    simp only
    rw [if_pos ⟨trivial, trivial, trivial, (fillFo_len bs p.c).symm⟩]
    exact fillFo_fit hlike p.c [] (fun x hx => by simp [Nd.all, hx]) hE
/-- A pattern may be where its variables are right and agree. -/
theorem vis_of : ∀ (l : List Nd), (∀ x ∈ l, ∀ nm, varF x.k = some nm → rightF x = true) → (∀ x ∈ l, ∀ y ∈ l, ∀ nm, varF x.k = some nm → varF y.k = some nm → x.n = y.n ∧ x.t = y.t) → (vis fMay [] l).2 = true := by
  refine snoc_induct (fun _ _ => rfl) (fun l x ih h1 h2 => ?_)
  have hl := ih (fun y hy => h1 y (by simp [hy])) (fun y hy z hz => h2 y (by simp [hy]) z (by simp [hz]))
  rw [vis_snoc hl]
  unfold fMay
  cases hv : varF x.k with
  | none => rfl
  | some nm =>
    simp only [Bool.and_eq_true]
    refine ⟨h1 x (by simp) nm hv, ?_⟩
    cases hg : nget (nts l) nm with
    | none => rfl
    | some e =>
      simp only [decide_eq_true_eq]
      have hm : (nm, e) ∈ nts l := by
        unfold nget at hg
        cases hf : (nts l).find? (fun e => decide (e.1 = nm)) with
        | none => rw [hf] at hg; simp at hg
        | some q =>
          rw [hf] at hg
          simp only [Option.map_some, Option.some.injEq] at hg
          have a := List.mem_of_find?_eq_some hf
          have b := List.find?_some hf
          simp only [decide_eq_true_eq] at b
          have : q = (nm, e) := by rw [← b, ← hg]
          rwa [this] at a
      obtain ⟨y, hy, hvy, he⟩ := (nts_from hl (nm, e)).1 hm
      obtain ⟨a, b⟩ := h2 x (by simp) y (by simp [hy]) nm hv hvy
      simp only at he
      rw [he, a, b]
/-- With a further variable in the place of a part. -/
theorem open_law {p t v s : Nd} {path : List Int} (hpm : pmayF p = 0) (ht : mayF t = 0) (hf : (fit1 p.k p.n p.t p.c t []).2 = true) (hu : usesF kQ p.k p.c = false) (hsp : sub path p = some v) (hsm : (put path p (lf kQ)).small) (w : Nd) (hw : w = put path t s) (hwm : mayF w = 0) :
    ∃ m, fitsF (put path p (lf kQ)) w = some m ∧ ∀ nm y, (nm, y) ∈ m → (nm = nQ ∧ y = s) ∨ (nm ≠ nQ ∧ (nm, y) ∈ (fit1 p.k p.n p.t p.c t []).1) := by
  obtain ⟨q, hq⟩ : ∃ q, q = put path p (lf kQ) := ⟨_, rfl⟩
  obtain ⟨l, hl⟩ : ∃ l, l = (fit1 p.k p.n p.t p.c t []).1 := ⟨_, rfl⟩
  have hpo := patOK_of hpm
  have hleaf : ∀ a ∈ p.all, (varF a.k).isSome → a.c = .nil := hpo.leaf
  have hno : ∀ a ∈ p.all, varF a.k ≠ some nQ := fun a ha h => by
    have hk := var_inj h varQ
    rw [usesF_all] at hu
    have := List.any_eq_false.1 hu a ha
    simp [hk] at this
  have hall : ∀ a ∈ q.all, a = lf kQ ∨ a ∈ p.all ∨ (varF a.k = none ∧ ∃ b ∈ p.all, b.k = a.k) := fun a ha => by
    rw [hq] at ha
    rcases put_all path p (lf kQ) v hsp hleaf a ha with h | h
    · simp only [Nd.all, Fo.all, List.mem_cons, List.not_mem_nil, or_false] at h
      exact .inl h
    · exact .inr h
  have hlq : bget l nQ = none := by
    cases hb : bget l nQ with
    | none => rfl
    | some y =>
      rw [hl] at hb
      obtain ⟨_, x, hx, hv, _⟩ := fit1_all (nQ, y) (bget_some hb).2
      exact absurd hv (hno x hx)
  have hE : Ext l (l ++ [(nQ, s)]) := Ext.snoc hlq
  have hBq : bget (l ++ [(nQ, s)]) nQ = some s := bget_last hlq
  -- the pattern may be
  have hqm : mayF q = 0 := by
    have hn := List.all_eq_true.1 (named_of (pmayF_zero hpm).1)
    unfold mayF
    rw [if_pos (by rw [hq]; exact hsm), if_pos]
    unfold Nd.named namedL
    rw [Nd.kinds_all, List.all_map]
    refine List.all_eq_true.2 fun a ha => ?_
    have hk : ∀ b ∈ p.all, kindB b.k.data.toList = true := fun b hb => hn b.k (by rw [Nd.kinds_all]; exact List.mem_map.2 ⟨b, hb, rfl⟩)
    rcases hall a ha with rfl | h | ⟨_, b, hb, h⟩
    · exact kindQ
    · exact hk a h
    · show kindB a.k.data.toList = true
      rw [← h]
      exact hk b hb
  have hfacts := may_facts p.all (pmayF_zero hpm).2
  have hqv : (vis fMay [] q.all).2 = true := by
    refine vis_of _ (fun x hx nm hv => ?_) (fun x hx y hy nm hvx hvy => ?_)
    · rcases hall x hx with rfl | h | ⟨h, _⟩
      · rfl
      · exact (hfacts x h nm hv).1
      · rw [h] at hv; simp at hv
    · rcases hall x hx with rfl | h | ⟨h, _⟩
      · rcases hall y hy with rfl | h' | ⟨h', _⟩
        · exact ⟨rfl, rfl⟩
        · rw [show varF (lf kQ).k = some nQ from varQ] at hvx
          rw [← hvx] at hvy
          exact absurd hvy (hno y h')
        · rw [h'] at hvy; simp at hvy
      · rcases hall y hy with rfl | h' | ⟨h', _⟩
        · rw [show varF (lf kQ).k = some nQ from varQ] at hvy
          rw [← hvy] at hvx
          exact absurd hvx (hno x h)
        · exact hpo.same x h y h' nm hvx hvy
        · rw [h'] at hvy; simp at hvy
      · rw [h] at hvx; simp at hvx
  have hqp : pmayF q = 0 := by unfold pmayF; rw [if_pos hqm, if_pos hqv]
  -- it fits
  have hlike : ∀ x ∈ q.all, ∀ nm, varF x.k = some nm → ∃ y, bget (l ++ [(nQ, s)]) nm = some y ∧ likeF x.n x.t y = true := by
    intro x hx nm hv
    rcases hall x hx with rfl | h | ⟨h, _⟩
    · rw [show varF (lf kQ).k = some nQ from varQ] at hv
      simp only [Option.some.injEq] at hv
      subst hv
      exact ⟨s, hBq, rfl⟩
    · obtain ⟨y, hb, hy⟩ := fit_like hpm hf x h nm hv
      rw [← hl] at hb
      exact ⟨y, hE nm y hb, hy⟩
    · rw [h] at hv; simp at hv
  have hfill : fill1 (l ++ [(nQ, s)]) q = w := by
    rw [hq, fill_put _ path p (lf kQ) v hsp hleaf, fit1_fillE hf (by rw [← hl]; exact hE), hw]
    congr 1
    unfold fill1
    rw [show varF (lf kQ).k = some nQ from varQ]
    simp only [hBq, Option.getD_some]
  have hfit := fits_fill1 hlike
  rw [hfill] at hfit
  refine ⟨(fit1 q.k q.n q.t q.c w []).1, ?_, ?_⟩
  · rw [← hq, fitsF, if_pos ⟨hqp, hwm, hfit.1⟩]
  · intro nm y hm
    have hnd : ((fit1 q.k q.n q.t q.c w []).1.map (·.1)).Nodup := by rw [fit1_names (patOK_of hqp) hfit.1]; exact nts_nodup _
    obtain ⟨i, hi⟩ := List.getElem?_of_mem hm
    have hb := hfit.2 nm y (bget_at hnd hi)
    by_cases hn : nm = nQ
    · subst hn
      rw [hBq] at hb
      simp only [Option.some.injEq] at hb
      exact .inl ⟨rfl, hb.symm⟩
    · refine .inr ⟨hn, ?_⟩
      have hmem := (bget_some hb).2
      simp only [List.mem_append, List.mem_singleton, Prod.mk.injEq] at hmem
      rcases hmem with h | h
      · rw [← hl]; exact h
      · exact absurd h.1 hn
/-- A variable that asks nothing. -/
theorem open_any {t : Nd} (ht : mayF t = 0) : fitsF (lf kQ) t = some [(nQ, t)] := by
  have hp : pmayF (lf kQ) = 0 := by
    have hm : mayF (lf kQ) = 0 := by rw [mayF, if_pos (smallLf _)]; decide
    rw [pmayF, if_pos hm]; decide
  have hb : fit1 (lf kQ).k (lf kQ).n (lf kQ).t (lf kQ).c t [] = ([(nQ, t)], true) := by
    simp [fit1, varQ, bindF, likeF, bget]
  rw [fitsF, hb, if_pos ⟨hp, ht, rfl⟩]
theorem put_zero {x u q : Nd} {path : List Int} (h : putF x path u = (q, 0)) : (∃ y, sub path x = some y) ∧ (put path x u).small ∧ q = put path x u := by
  unfold putF at h
  split at h
  · split at h
    · rename_i h1
      split at h
      · rename_i h2
        simp only [Prod.mk.injEq, and_true] at h
        exact ⟨Option.isSome_iff_exists.1 h1, h2, h.symm⟩
      · simp at h
    · simp at h
  · simp at h
theorem at_zero {x y : Nd} {path : List Int} (h : atF x path = (y, 0)) : sub path x = some y := by
  unfold atF at h
  split at h
  · unfold found at h
    split at h
    · rename_i hs
      simp only [Prod.mk.injEq, and_true] at h
      rw [hs, h]
    · simp at h
  · simp at h
end Go.Proofs.Ytccoihmibkpedaa
