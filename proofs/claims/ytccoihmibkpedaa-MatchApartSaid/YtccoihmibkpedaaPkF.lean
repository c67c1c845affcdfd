/-
  Merged texts: XMatQ, XBnd, XBndRead, XBackP, XLayP, XFillP, XBackQ, XBackR, XBackS, XBackT, XMatG, XFndP, XMBegP, XMatL, XMLight.
-/
import Derived.Test.YtccoihmibkpedaaMatF

import Derived.Test.YtccoihmibkpedaaPut

import Derived.Test.YtccoihmibkpedaaPkA

import Derived.Test.YtccoihmibkpedaaPkC

import Derived.Test.YtccoihmibkpedaaPkD

import Derived.Test.YtccoihmibkpedaaOf

set_option linter.unusedVariables false

set_option linter.unusedSimpArgs false

/-!
  Patterns that may be: their variables agree; what fits binds each name once, in order. Plain.
-/
namespace Go.Proofs.Ytccoihmibkpedaa

open Go.RowKit

theorem snoc_induct {α : Type} {P : List α → Prop} (h0 : P []) (h1 : ∀ l x, P l → P (l ++ [x])) : ∀ l, P l := by
  intro l
  rw [← List.reverse_reverse l]
  induction l.reverse with
  | nil => exact h0
  | cons x r ih => rw [List.reverse_cons]; exact h1 _ _ ih
theorem vis_prefix {f : List Nd → Nd → Bool} {l : List Nd} {x : Nd} (h : (vis f [] (l ++ [x])).2 = true) : (vis f [] l).2 = true ∧ f l x = true := by
  rw [vis_append] at h
  by_cases hl : (vis f [] l).2 = true
  · rw [if_pos hl, vis_true hl] at h
    refine ⟨hl, ?_⟩
    simp only [List.nil_append, vis] at h
    split at h
    · assumption
    · simp at h
  · rw [if_neg hl] at h
    exact absurd h hl
theorem right_leaf {x : Nd} (h : rightF x = true) : x.c = .nil ∧ (x.n = 0 ∨ x.n = 1 ∨ x.n = 2) := by
  simp only [rightF, Bool.and_eq_true, Bool.or_eq_true, decide_eq_true_eq] at h
  obtain ⟨h1, h2⟩ := h
  refine ⟨?_, ?_⟩
  · cases hc : x.c with
    | nil => rfl
    | cons k n t c r => rw [hc] at h1; simp [Fo.len] at h1
  · rcases h2 with ⟨h2, _⟩ | ⟨h2, _⟩ <;> omega
theorem may_facts : ∀ (l : List Nd), (vis fMay [] l).2 = true → (∀ x ∈ l, ∀ nm, varF x.k = some nm → rightF x = true ∧ nget (nts l) nm = some (x.n, x.t)) := by
  refine snoc_induct (fun _ x hx => by simp at hx) (fun l y ih h x hx nm hv => ?_)
  obtain ⟨h1, h2⟩ := vis_prefix h
  rw [nts_snoc, nget_nadd]
  rcases List.mem_append.1 hx with hx | hx
  · obtain ⟨g1, g2⟩ := ih h1 x hx nm hv
    refine ⟨g1, ?_⟩
    rw [g2]
    split <;> rfl
  · simp only [List.mem_singleton] at hx
    subst hx
    unfold fMay at h2
    rw [hv] at h2
    simp only [Bool.and_eq_true] at h2
    refine ⟨h2.1, ?_⟩
    rw [if_pos hv]
    cases hg : nget (nts l) nm with
    | none => rfl
    | some e => rw [hg] at h2; simp only [decide_eq_true_eq] at h2; rw [h2.2]; rfl
theorem patOK_of_may {l : List Nd} (h : (vis fMay [] l).2 = true) : PatOK l := by
  have hf := may_facts l h
  refine ⟨fun x hx y hy nm hvx hvy => ?_, fun x hx hv => ?_, fun x hx hv => ?_⟩
  · have h1 := (hf x hx nm hvx).2
    have h2 := (hf y hy nm hvy).2
    rw [h1] at h2
    simpa using h2
  · obtain ⟨nm, hn⟩ := Option.isSome_iff_exists.1 hv
    exact (right_leaf (hf x hx nm hn).1).2
  · obtain ⟨nm, hn⟩ := Option.isSome_iff_exists.1 hv
    exact (right_leaf (hf x hx nm hn).1).1
theorem pmayF_zero {x : Nd} (h : pmayF x = 0) : mayF x = 0 ∧ (vis fMay [] x.all).2 = true := by
  unfold pmayF at h
  split at h
  · rename_i h0
    refine ⟨h0, ?_⟩
    split at h
    · assumption
    · simp at h
  · rename_i h0; exact absurd h h0
theorem patOK_of {x : Nd} (h : pmayF x = 0) : PatOK x.all := patOK_of_may (pmayF_zero h).2
theorem bget_none {bs : List Bind} {nm : ByteArray} (h : bget bs nm = none) : nm ∉ bs.map (·.1) := by
  intro hm
  obtain ⟨e, he, rfl⟩ := List.mem_map.1 hm
  unfold bget at h
  simp only [Option.map_eq_none_iff, List.find?_eq_none, decide_eq_true_eq] at h
  exact h e he rfl
theorem bget_some {bs : List Bind} {nm : ByteArray} {y : Nd} (h : bget bs nm = some y) : nm ∈ bs.map (·.1) ∧ (nm, y) ∈ bs := by
  unfold bget at h
  cases hf : bs.find? (fun e => decide (e.1 = nm)) with
  | none => rw [hf] at h; simp at h
  | some q =>
    rw [hf] at h
    simp only [Option.map_some, Option.some.injEq] at h
    have h1 := List.mem_of_find?_eq_some hf
    have h2 := List.find?_some hf
    simp only [decide_eq_true_eq] at h2
    have : q = (nm, y) := by rw [← h2, ← h]
    rw [this] at h1
    exact ⟨List.mem_map.2 ⟨_, h1, rfl⟩, h1⟩
theorem nget_iff {L : List Note} {nm : ByteArray} : (nget L nm).isSome = true ↔ nm ∈ L.map (·.1) := by
  unfold nget
  rw [Option.isSome_map, List.find?_isSome]
  constructor
  · rintro ⟨x, hx, h⟩
    simp only [decide_eq_true_eq] at h
    exact List.mem_map.2 ⟨x, hx, h⟩
  · intro h
    obtain ⟨x, hx, h⟩ := List.mem_map.1 h
    exact ⟨x, hx, by simpa using h⟩
theorem bget_iff {bs : List Bind} {nm : ByteArray} : (bget bs nm).isSome = true ↔ nm ∈ bs.map (·.1) := by
  unfold bget
  rw [Option.isSome_map, List.find?_isSome]
  constructor
  · rintro ⟨x, hx, h⟩
    simp only [decide_eq_true_eq] at h
    exact List.mem_map.2 ⟨x, hx, h⟩
  · intro h
    obtain ⟨x, hx, h⟩ := List.mem_map.1 h
    exact ⟨x, hx, by simpa using h⟩
theorem bind_names {bs : List Bind} {nm : ByteArray} {n : Int} {t : ByteArray} {y x : Nd} {L : List Note} (hv : varF x.k = some nm) (h : (bindF bs nm n t y).2 = true) (hb : bs.map (·.1) = L.map (·.1)) : (bindF bs nm n t y).1.map (·.1) = (nadd L x).map (·.1) := by
  unfold bindF at h ⊢
  unfold nadd
  rw [hv]
  by_cases hl : likeF n t y = true
  · rw [if_pos hl] at h ⊢
    cases hg : bget bs nm with
    | some z =>
      have : (nget L nm).isSome = true := by rw [nget_iff, ← hb, ← bget_iff, hg]; rfl
      simp only [this, if_true]
      exact hb
    | none =>
      have : ¬ (nget L nm).isSome = true := by rw [nget_iff, ← hb, ← bget_iff, hg]; simp
      simp only [if_neg this, List.map_append, hb]
      rfl
  · rw [if_neg hl] at h
    simp at h
theorem wordB_size {s : ByteArray} (h : wordB s.data.toList = true) : s.size ≤ 16 := by
  unfold wordB madeB at h
  split at h
  · simp at h
  · rename_i c r hd
    simp only [Bool.and_eq_true, decide_eq_true_eq] at h
    have h1 := h.1.1
    have : s.size = s.data.toList.length := by simp
    omega
theorem varF_word {k nm : ByteArray} (h : varF k = some nm) : wordB nm.data.toList = true ∧ nm.size ≤ 16 := by
  obtain ⟨h1, _, h3⟩ := varF_some h
  rw [kindB_eq] at h1
  simp only [Bool.and_eq_true] at h1
  have h4 : wordB nm.data.toList = true := by rw [h3]; exact h1.2
  exact ⟨h4, wordB_size h4⟩
theorem nts_word {l : List Nd} {nm : ByteArray} (h : nm ∈ (nts l).map (·.1)) : wordB nm.data.toList = true ∧ nm.size ≤ 16 := by
  obtain ⟨e, he⟩ := Option.isSome_iff_exists.1 (nget_iff.2 h)
  obtain ⟨x, _, hv, _⟩ := nts_size he
  exact varF_word hv
/-- Each name, once, in order. -/
theorem fitFo_names : ∀ (f g : Fo) (bs : List Bind) (L : List Note), (∀ x ∈ f.all, (varF x.k).isSome → x.c = .nil) → f.len = g.len → (fitFo f g bs).2 = true → bs.map (·.1) = L.map (·.1) → (fitFo f g bs).1.map (·.1) = (f.all.foldl nadd L).map (·.1)
  | .nil, g, bs, L, _, _, _, hb => by simpa [fitFo, Fo.all] using hb
  | .cons k n t c r, .nil, bs, L, _, hl, _, hb => by simp [Fo.len] at hl
  | .cons k n t c r, .cons k' n' t' c' r', bs, L, hlf, hl, h, hb => by
    rw [fitFo_cons] at h ⊢
    by_cases h1 : (fit1 k n t c ⟨k', n', t', c'⟩ bs).2 = true
    · rw [if_pos h1] at h ⊢
      have hlr : r.len = r'.len := by simpa [Fo.len] using hl
      have h2 : (fit1 k n t c ⟨k', n', t', c'⟩ bs).1.map (·.1) = (c.all.foldl nadd (nadd L ⟨k, n, t, c⟩)).map (·.1) := by
        unfold fit1 at h1 ⊢
        cases hv : varF k with
        | some nm =>
          rw [hv] at h1
          have hc : c = .nil := hlf ⟨k, n, t, c⟩ (by simp [Fo.all]) (by simp [hv])
          subst hc
          exact bind_names (x := ⟨k, n, t, .nil⟩) hv h1 hb
        | none =>
          rw [hv] at h1
          simp only at h1 ⊢
          split at h1
          · rename_i hc
            rw [if_pos hc]
            have : nadd L ⟨k, n, t, c⟩ = L := by unfold nadd; simp only; rw [hv]
            rw [this]
            exact fitFo_names c c' bs L (fun x hx => hlf x (by simp [Fo.all, hx])) hc.2.2.2 h1 hb
          · simp at h1
      have := fitFo_names r r' _ (c.all.foldl nadd (nadd L ⟨k, n, t, c⟩)) (fun x hx => hlf x (by simp [Fo.all, hx])) hlr h h2
      simpa [Fo.all, List.foldl_append] using this
    · rw [if_neg h1] at h
      simp at h
theorem fit1_names {p y : Nd} (hp : PatOK p.all) (h : (fit1 p.k p.n p.t p.c y []).2 = true) : (fit1 p.k p.n p.t p.c y []).1.map (·.1) = (nts p.all).map (·.1) := by
  unfold fit1 at h ⊢
  cases hv : varF p.k with
  | some nm =>
    rw [hv] at h
    have hc : p.c = .nil := hp.leaf p (by simp [Nd.all]) (by simp [hv])
    have := bind_names (x := p) (L := []) hv h rfl
    simp only [nts, Nd.all, hc, Fo.all, List.foldl_cons, List.foldl_nil]
    exact this
  | none =>
    rw [hv] at h
    simp only at h ⊢
    split at h
    · rename_i hc
      rw [if_pos hc]
      have : nadd [] p = [] := by unfold nadd; rw [hv]
      simp only [nts, Nd.all, List.foldl_cons, this]
      exact fitFo_names p.c y.c [] [] (fun x hx => hp.leaf x (by simp [Nd.all, hx])) hc.2.2.2 h rfl
    · simp at h
/-- No name twice. -/
theorem nts_nodup (l : List Nd) : ((nts l).map (·.1)).Nodup := by
  refine snoc_induct (P := fun l => ((nts l).map (·.1)).Nodup) (by simp [nts]) (fun l x ih => ?_) l
  rw [nts_snoc, nadd]
  cases hv : varF x.k with
  | none => exact ih
  | some nm =>
    simp only
    split
    · exact ih
    · rename_i h
      rw [List.map_append]
      refine List.nodup_append.2 ⟨ih, by simp, fun a ha b hb e => ?_⟩
      simp only [List.map_cons, List.map_nil, List.mem_singleton] at hb
      subst hb e
      exact h (nget_iff.2 ha)
theorem bget_at {bs : List Bind} (hnd : (bs.map (·.1)).Nodup) {i : Nat} {nm : ByteArray} {y : Nd} (h : bs[i]? = some (nm, y)) : bget bs nm = some y := by
  induction bs generalizing i with
  | nil => simp at h
  | cons e r ih =>
    simp only [List.map_cons, List.nodup_cons] at hnd
    cases i with
    | zero =>
      simp only [List.getElem?_cons_zero, Option.some.injEq] at h
      subst h
      simp [bget]
    | succ i =>
      simp only [List.getElem?_cons_succ] at h
      have hne : e.1 ≠ nm := fun he => hnd.1 (by rw [he]; exact List.mem_map.2 ⟨(nm, y), List.mem_of_getElem? h, rfl⟩)
      have := ih hnd.2 h
      unfold bget at this ⊢
      rw [List.find?_cons, show decide (e.1 = nm) = false by simpa using hne]
      exact this
end Go.Proofs.Ytccoihmibkpedaa

/-!
  Lists of bounds (a name, a tree) in memory: readable; and in memory of their own.
-/
namespace Go.Proofs.Ytccoihmibkpedaa

open Go.RowKit

abbrev TB : TypeId := 33
def BindsAt (w : World) (A : Nat → Prop) : List Bind → Option Addr → Nat → Prop
  | [], _, n => n = 0
  | (nm, x) :: r, p, n => ∃ b o m cp cl cc, p = some ⟨b, o, none⟩ ∧ n = m + 1 ∧ n ≤ 9223372036854775807 ∧ A b ∧ b < w.heap.size ∧ nm.size ≤ 140737488351232 ∧ w.cell? ⟨b, o, none⟩ = some (.string nm) ∧ NodeAt w A b (o + 1) x.k x.n x.t x.c cp cl cc ∧ BindsAt w A r (some ⟨b, o + 5, none⟩) m
section

variable {w w1 : World} {A A' S : Nat → Prop}

theorem BindsAt.keeps (hk : Keeps S w w1) (hA : ∀ b, A b → ¬ S b) : ∀ {bs : List Bind} {p : Option Addr} {n : Nat}, BindsAt w A bs p n → BindsAt w1 A bs p n
  | [], _, _, h => h
  | (nm, x) :: r, _, _, ⟨b, o, m, cp, cl, cc, hp, hn, hm, hb, hl, hs, hc, ht, hr⟩ => ⟨b, o, m, cp, cl, cc, hp, hn, hm, hb, Nat.lt_of_lt_of_le hl hk.size, hs, (hk.cell (p := ⟨b, o, none⟩) hl (hA b hb)).trans hc, ht.keeps hk hA hl (hA b hb), BindsAt.keeps hk hA hr⟩
theorem BindsAt.next {bs : List Bind} {p : Option Addr} {n : Nat} (h : BindsAt w A bs p n) (hk : Keeps (fun _ => False) w w1) : BindsAt w1 A bs p n := h.keeps hk (fun _ _ h => h)
theorem BindsAt.mono (hA : ∀ b, A b → A' b) : ∀ {bs : List Bind} {p : Option Addr} {n : Nat}, BindsAt w A bs p n → BindsAt w A' bs p n
  | [], _, _, h => h
  | (nm, x) :: r, _, _, ⟨b, o, m, cp, cl, cc, hp, hn, hm, hb, hl, hs, hc, ht, hr⟩ => ⟨b, o, m, cp, cl, cc, hp, hn, hm, hA b hb, hl, hs, hc, ht.mono hA, BindsAt.mono hA hr⟩
theorem BindsAt.top : ∀ {bs : List Bind} {p : Option Addr} {n : Nat}, BindsAt w A bs p n → BindsAt w (fun b => b < w.heap.size) bs p n
  | [], _, _, h => h
  | (nm, x) :: r, _, _, ⟨b, o, m, cp, cl, cc, hp, hn, hm, hb, hl, hs, hc, ht, hr⟩ => ⟨b, o, m, cp, cl, cc, hp, hn, hm, hl, hl, hs, hc, ht.top, BindsAt.top hr⟩
theorem BindsAt.len : ∀ {bs : List Bind} {p : Option Addr} {n : Nat}, BindsAt w A bs p n → bs.length = n
  | [], _, _, h => h.symm
  | (nm, x) :: r, _, _, ⟨_, _, _, _, _, _, _, hn, _, _, _, _, _, _, hr⟩ => by rw [hn, List.length_cons, BindsAt.len hr]
/-- The i-th. -/
theorem BindsAt.at_ : ∀ {bs : List Bind} {b o n i : Nat} {nm : ByteArray} {x : Nd}, BindsAt w A bs (some ⟨b, o, none⟩) n → bs[i]? = some (nm, x) →
    nm.size ≤ 140737488351232 ∧ w.cell? ⟨b, o + i * 5, none⟩ = some (.string nm) ∧ A b ∧ b < w.heap.size ∧ ∃ cp cl cc, NodeAt w A b (o + i * 5 + 1) x.k x.n x.t x.c cp cl cc
  | [], _, _, _, _, _, _, _, h => by simp at h
  | (nm', x') :: r, b, o, n, 0, nm, x, ⟨b', o', m, cp, cl, cc, hp, hn, hm, hb, hl, hs, hc, ht, hr⟩, h => by
    simp only [Option.some.injEq, Addr.mk.injEq, and_true] at hp
    obtain ⟨rfl, rfl⟩ := hp
    simp only [List.getElem?_cons_zero, Option.some.injEq, Prod.mk.injEq] at h
    obtain ⟨rfl, rfl⟩ := h
    exact ⟨hs, by simpa using hc, hb, hl, cp, cl, cc, by simpa using ht⟩
  | (nm', x') :: r, b, o, n, i + 1, nm, x, ⟨b', o', m, cp, cl, cc, hp, hn, hm, hb, hl, hs, hc, ht, hr⟩, h => by
    simp only [Option.some.injEq, Addr.mk.injEq, and_true] at hp
    obtain ⟨rfl, rfl⟩ := hp
    simp only [List.getElem?_cons_succ] at h
    have := BindsAt.at_ hr h
    rw [show o + (i + 1) * 5 = o + 5 + i * 5 by omega]
    exact this
theorem BindsAt.addr {bs : List Bind} {p : Option Addr} {n : Nat} (h : BindsAt w A bs p n) (hn : 0 < n) : ∃ b o, p = some ⟨b, o, none⟩ ∧ A b ∧ b < w.heap.size := by
  cases bs with
  | nil => have : n = 0 := h; omega
  | cons e r => obtain ⟨b, o, m, cp, cl, cc, hp, _, _, hb, hl, _⟩ := h; exact ⟨b, o, hp, hb, hl⟩
end

/-- The values xs are the bounds, five cells each; blks: the blocks of the lists of kids beneath. -/
def BindsRep (w : World) : List Bind → List Value → List Nat → Prop
  | [], xs, bs => xs = [] ∧ bs = []
  | (nm, x) :: L, xs, bs => ∃ cp cl cc bs1 xs' bs2, xs = .string nm :: .string x.k :: .int .i64 x.n :: .string x.t :: .slice cp cl cc :: xs' ∧ bs = bs1 ++ bs2 ∧ nm.size ≤ 140737488351232 ∧ szok x.k x.t ∧ Own w x.c cp cl cc bs1 ∧ BindsRep w L xs' bs2
theorem BindsRep.shape {w : World} : ∀ {L : List Bind} {xs : List Value} {bs : List Nat}, BindsRep w L xs bs → ∀ b ∈ bs, ∃ cur, w.heap[b]? = some (.cells cur T (0, 0))
  | [], _, _, ⟨_, rfl⟩, b, hb => by simp at hb
  | (nm, x) :: L, _, _, ⟨cp, cl, cc, bs1, xs', bs2, _, rfl, _, _, ho, hr⟩, b, hb => by
    rcases List.mem_append.1 hb with hb | hb
    · exact ho.shape b hb
    · exact BindsRep.shape hr b hb
theorem BindsRep.same {w w1 : World} : ∀ {L : List Bind} {xs : List Value} {bs : List Nat}, BindsRep w L xs bs → (∀ b ∈ bs, w1.heap[b]? = w.heap[b]?) → BindsRep w1 L xs bs
  | [], _, _, h, _ => h
  | (nm, x) :: L, _, _, ⟨cp, cl, cc, bs1, xs', bs2, hx, hb, hn, hs, ho, hr⟩, h => by
    subst hb
    exact ⟨cp, cl, cc, bs1, xs', bs2, hx, rfl, hn, hs, ho.same (fun b hb => h b (List.mem_append.2 (.inl hb))), BindsRep.same hr (fun b hb => h b (List.mem_append.2 (.inr hb)))⟩
theorem BindsRep.snoc {w : World} {nm : ByteArray} {x : Nd} {cp : Option Addr} {cl cc : Nat} {bs1 : List Nat} (hn : nm.size ≤ 140737488351232) (hs : szok x.k x.t) (ho : Own w x.c cp cl cc bs1) : ∀ {L : List Bind} {xs : List Value} {bs : List Nat}, BindsRep w L xs bs →
    BindsRep w (L ++ [(nm, x)]) (xs ++ [.string nm, .string x.k, .int .i64 x.n, .string x.t, .slice cp cl cc]) (bs ++ bs1)
  | [], _, _, ⟨rfl, rfl⟩ => ⟨cp, cl, cc, bs1, [], [], rfl, by simp, hn, hs, ho, rfl, rfl⟩
  | (nm', x') :: L, _, _, ⟨cp', cl', cc', bs1', xs', bs2', rfl, rfl, hn', hs', ho', hr⟩ => ⟨cp', cl', cc', bs1', _, _, rfl, by simp [List.append_assoc], hn', hs', ho', BindsRep.snoc hn hs ho hr⟩
/-- Read cell by cell. -/
theorem BindsRep.at_ {w : World} {A : Nat → Prop} : ∀ {L : List Bind} {xs : List Value} {bs : List Nat} {g o : Nat}, BindsRep w L xs bs → (∀ j u, xs[j]? = some u → w.cell? ⟨g, o + j, none⟩ = some u) → A g → g < w.heap.size → L.length ≤ 9223372036854775807 → (∀ b ∈ bs, A b) → BindsAt w A L (some ⟨g, o, none⟩) L.length
  | [], _, _, _, _, _, _, _, _, _, _ => rfl
  | (nm, x) :: L, _, _, g, o, ⟨cp, cl, cc, bs1, xs', bs2, rfl, rfl, hn, hs, ho, hr⟩, hc, hA, hg, hl, hb => by
    obtain ⟨h1, h2, h3, h4⟩ := ho.kids (A := A) (fun b h => hb b (List.mem_append.2 (.inl h)))
    refine ⟨g, o, L.length, cp, cl, cc, rfl, rfl, hl, hA, hg, hn, hc 0 _ rfl, ⟨hs, h2, h3, hc 1 _ rfl, ?_, ?_, ?_, h1⟩, ?_⟩
    · have := hc 2 _ rfl
      rw [show o + 1 + 1 = o + 2 by omega]; exact this
    · have := hc 3 _ rfl
      rw [show o + 1 + 2 = o + 3 by omega]; exact this
    · have := hc 4 _ rfl
      rw [show o + 1 + 3 = o + 4 by omega]; exact this
    · refine BindsRep.at_ hr (fun j u hu => ?_) hA hg (by simp only [List.length_cons] at hl; omega) (fun b h => hb b (List.mem_append.2 (.inr h)))
      have := hc (j + 5) u (by simpa using hu)
      rw [show o + 5 + j = o + (j + 5) by omega]
      exact this
structure BindsI (D : Nat) (W : World) (L : List Bind) (lp : Option Addr) (ll lc : Nat) (xs : List Value) (bs : List Nat) : Prop where
  row : W.ownsRow D TB 5 (.slice lp ll lc) L.length xs
  rep : BindsRep W L xs bs
  lo : ∀ b ∈ bs, D ≤ b
  nodup : bs.Nodup
theorem BindsI.start (D : Nat) (W : World) : BindsI D W [] none 0 0 [] [] := ⟨World.ownsRow_nil _ _ _ _, ⟨rfl, rfl⟩, by simp, List.nodup_nil⟩
section

variable {D : Nat} {W W1 : World} {L : List Bind} {lp : Option Addr} {ll lc : Nat} {xs : List Value} {bs : List Nat}

theorem BindsI.lt (h : BindsI D W L lp ll lc xs bs) : ∀ b ∈ bs, b < W.heap.size := fun b hb => by
  obtain ⟨cur, hh⟩ := h.rep.shape b hb
  exact heap_lt hh
theorem BindsI.ne (h : BindsI D W L lp ll lc xs bs) {b : Nat} (hb : b ∈ bs) : (Value.slice lp ll lc).ownBlock ≠ some b := fun e => by
  obtain ⟨_, cur, h1⟩ := ownsRow_blk h.row e
  obtain ⟨cur', h2⟩ := h.rep.shape b hb
  rw [h1] at h2
  simp only [Option.some.injEq, Obj.cells.injEq] at h2
  exact absurd h2.2.1 (by decide)
theorem BindsI.keeps {S : Nat → Prop} (h : BindsI D W L lp ll lc xs bs) (hk : Keeps S W W1) (hS : ∀ b, S b → b < D ∨ W.heap.size ≤ b) : BindsI D W1 L lp ll lc xs bs :=
  ⟨ownsRow_same h.row (fun b hb => by
    have h3 := h.row.lt b (by simpa using hb)
    exact hk.block b h3.2 (fun hs => by have := hS b hs; omega)),
   h.rep.same (fun b hb => hk.block b (h.lt b hb) (fun hs => by have := hS b hs; have := h.lo b hb; have := h.lt b hb; omega)), h.lo, h.nodup⟩
theorem BindsI.lower {D' : Nat} (h : BindsI D W L lp ll lc xs bs) (hD : D' ≤ D) : BindsI D' W L lp ll lc xs bs :=
  ⟨⟨h.row.1, h.row.2.imp id (fun ⟨g, cap, cur, a, b, c⟩ => ⟨g, cap, cur, a, Nat.le_trans hD b, c⟩)⟩, h.rep, fun b hb => Nat.le_trans hD (h.lo b hb), h.nodup⟩
theorem BindsI.length (h : BindsI D W L lp ll lc xs bs) : ll = L.length := by
  rcases h.row.2 with ⟨h1, h2⟩ | ⟨g', cap', cur, h1, h2, _⟩
  · simp only [Value.slice.injEq] at h1; omega
  · simp only [Value.slice.injEq] at h1; omega
theorem BindsI.push {Wq w3 : World} (hI : BindsI D W L lp ll lc xs bs) (hk : Keeps (fun _ => False) W Wq) {nm : ByteArray} {x : Nd} {cp : Option Addr} {cl cc : Nat} {bs1 : List Nat} (hn : nm.size ≤ 140737488351232) (hs : szok x.k x.t) (ho : Own Wq x.c cp cl cc bs1) (hnw : News Wq W.heap.size bs1) (hD : D ≤ W.heap.size) {gg cap : Nat}
    (hrow : w3.ownsRow D TB 5 (.slice (some ⟨gg, 0, none⟩) (L.length + 1) cap) (L.length + 1) (xs ++ [.string nm, .string x.k, .int .i64 x.n, .string x.t, .slice cp cl cc])) (hg : Wq.grownBy w3 (Value.slice lp ll lc).ownBlock) :
    BindsI D w3 (L ++ [(nm, x)]) (some ⟨gg, 0, none⟩) (L.length + 1) cap (xs ++ [.string nm, .string x.k, .int .i64 x.n, .string x.t, .slice cp cl cc]) (bs ++ bs1) := by
  have hq := hI.keeps hk (fun _ h => h.elim)
  have hrep := hq.rep.snoc hn hs ho
  have hne : ∀ b ∈ bs ++ bs1, b < Wq.heap.size ∧ (Value.slice lp ll lc).ownBlock ≠ some b := fun b hb => by
    obtain ⟨cur, h1⟩ := hrep.shape b hb
    refine ⟨heap_lt h1, fun e => ?_⟩
    obtain ⟨_, cur', h3⟩ := ownsRow_blk hq.row e
    rw [h1] at h3
    simp only [Option.some.injEq, Obj.cells.injEq] at h3
    exact absurd h3.2.1 (by decide)
  refine ⟨by rw [List.length_append]; exact hrow, hrep.same (fun b hb => hg.block b (hne b hb).1 (fun e => (hne b hb).2 e.symm)), fun b hb => ?_, List.nodup_append.2 ⟨hI.nodup, hnw.nodup, fun a ha b hb e => ?_⟩⟩
  · rcases List.mem_append.1 hb with h | h
    · exact hI.lo b h
    · have := hnw.lo b h; omega
  · have h1 := hI.lt a ha
    have h2 := hnw.lo b hb
    omega
/-- Read. -/
theorem BindsI.at_ (h : BindsI D W L lp ll lc xs bs) : BindsAt W (fun b => (Value.slice lp ll lc).ownBlock = some b ∨ b ∈ bs) L lp ll := by
  rcases h.row.2 with ⟨h1, h2⟩ | ⟨g, cap, cur, h1, h2, h3, h4, h5, _⟩
  · simp only [Value.slice.injEq] at h1
    obtain ⟨rfl, rfl, rfl⟩ := h1
    cases L with
    | nil => rfl
    | cons e r => simp at h2
  · have hl := h.length
    simp only [Value.slice.injEq] at h1
    obtain ⟨rfl, _, rfl⟩ := h1
    rw [hl]
    refine h.rep.at_ (fun j u hu => ?_) (.inl rfl) (heap_lt h3) (by unfold maxLen at h5; omega) (fun b hb => .inr hb)
    have := h.row.cells (g := g) rfl j u hu
    rw [add0] at this
    simpa using this
theorem BindsI.cap (h : BindsI D W L lp ll lc xs bs) : ll ≤ lc ∧ lc ≤ 9223372036854775807 := by
  rcases h.row.2 with ⟨h1, h2⟩ | ⟨g, cap, cur, h1, h2, h3, h4, h5, _⟩
  · simp only [Value.slice.injEq] at h1; obtain ⟨_, rfl, rfl⟩ := h1; exact ⟨Nat.le_refl _, by omega⟩
  · have hl := h.length
    simp only [Value.slice.injEq] at h1
    obtain ⟨_, _, rfl⟩ := h1
    unfold maxLen at h5
    exact ⟨by omega, by omega⟩
end

end Go.Proofs.Ytccoihmibkpedaa

/-!
  The row's reading of a list of bounds.
-/
namespace Go.Proofs.Ytccoihmibkpedaa

open Go.RowKit

section

variable {H : Type} {enc : TypeId × Value → H} {w : World} {held : Bool} {sp : Nat → Bool}

/-- A bound's five cells. -/
def IsBnd (w : World) (cs : List Value) : Prop := ∃ (nm : ByteArray) (x : Nd) (cp : Option Addr) (cl cc : Nat), cs = [.string nm, .string x.k, .int .i64 x.n, .string x.t, .slice cp cl cc] ∧ nm.size ≤ 140737488351232 ∧ Tv w (fun b => b < w.heap.size) x.k x.t x.c cp cl cc
set_option maxRecDepth 100000 in
theorem read_bnd {n : Nat} {cs : List Value} {x} (h : DataW.trod enc Try.prog w 0 sp held n TB cs = some x) (hr : Reach Try.prog TB x.1) : IsBnd w cs := by
  have hu := Try.underlying33
  obtain ⟨xs, m, hm, rfl, hl, hlen, hf⟩ := DataW.trod_struct hu h
  have h11 : Try.prog.cellsOf TB = 5 := by kernel_rfl
  rw [h11] at hl
  have f0 : DataW.trod enc Try.prog w 0 sp held m 9 (List.take (Try.prog.cellsOf 9) (List.drop 0 cs)) = xs[0]? := hf 0 _ rfl
  have f1 : DataW.trod enc Try.prog w 0 sp held m 26 (List.take (Try.prog.cellsOf 26) (List.drop 1 cs)) = xs[1]? := hf 1 _ rfl
  clear hf
  have g0 := fun (f : TypeId) (d : DataW H) hf' hd' => hr.field (j := 0) (f := f) (d := d) hu hf' hd'
  have g1 := fun (f : TypeId) (d : DataW H) hf' hd' => hr.field (j := 1) (f := f) (d := d) hu hf' hd'
  clear hr hu h
  rw [show Try.prog.cellsOf 9 = 1 by kernel_rfl] at f0
  rw [show Try.prog.cellsOf 26 = 4 by kernel_rfl] at f1
  obtain ⟨c0, c1, c2, c3, c4, rfl⟩ : ∃ c0 c1 c2 c3 c4, cs = [c0, c1, c2, c3, c4] := by
    match cs, hl with
    | [c0, c1, c2, c3, c4], _ => exact ⟨c0, c1, c2, c3, c4, rfl⟩
  obtain ⟨y0, y1, rfl⟩ : ∃ y0 y1, xs = [y0, y1] := by
    match xs, hlen with
    | [c0, c1], _ => exact ⟨c0, c1, rfl⟩
  have f0 : DataW.trod enc Try.prog w 0 sp held m 9 [c0] = some y0 := f0
  have f1 : DataW.trod enc Try.prog w 0 sp held m 26 [c1, c2, c3, c4] = some y1 := f1
  have us : Try.prog.underlying 9 = some .string := Try.underlying9
  obtain ⟨s0, e0, rfl, _⟩ := DataW.trod_string us f0
  have hs0 := (g0 9 _ rfl rfl).string
  obtain rfl := (List.cons.inj e0).1
  obtain ⟨k, nn, t, f, cp, cl, cc, e1, ht, _⟩ := (read_both m).2 _ _ f1 (g1 26 _ rfl rfl)
  have e1a := (List.cons.inj e1).2
  have e1b := (List.cons.inj e1a).2
  have e1c := (List.cons.inj e1b).2
  obtain rfl := (List.cons.inj e1).1
  obtain rfl := (List.cons.inj e1a).1
  obtain rfl := (List.cons.inj e1b).1
  obtain rfl := (List.cons.inj e1c).1
  exact ⟨s0, ⟨k, nn, t, f⟩, cp, cl, cc, rfl, hs0, ht⟩
theorem read_bnds {n : Nat} {cs : List Value} {x} (h : DataW.trod enc Try.prog w 0 sp held n 27 cs = some x) (hr : Reach Try.prog 27 x.1) :
    ∃ (bs : List Bind) (sp : Option Addr) (sl sc : Nat), cs = [.slice sp sl sc] ∧ BindsAt w (fun b => b < w.heap.size) bs sp sl ∧ sl ≤ sc ∧ sc ≤ 9223372036854775807 := by
  have hu : Try.prog.underlying 27 = some (.slice TB) := Try.underlying27
  rcases DataW.trod_slice hu h with ⟨rfl, rfl⟩ | ⟨a, len, cap, elems, rest, m, hm, rfl, rfl, _, hl, hcap, hlen, hel, _, _⟩
  · exact ⟨[], none, 0, 0, rfl, rfl, Nat.le_refl _, by omega⟩
  · have hmax : cap ≤ 9223372036854775807 := by unfold maxLen at hcap; exact hcap
    have h11 : Try.prog.cellsOf TB = 5 := by kernel_rfl
    rw [h11] at hel
    have one : ∀ i, i < len → ∃ cs', w.cells? 0 (a.add (i * 5)) 5 = some cs' ∧ IsBnd w cs' := by
      intro i hi
      have he : i < elems.length := by omega
      have := hel i hi
      rw [List.getElem?_eq_getElem he] at this
      obtain ⟨cs', h1, h2⟩ := Option.bind_eq_some_iff.1 this
      exact ⟨cs', h1, read_bnd h2 (hr.elem hu (List.mem_map_of_mem (List.getElem_mem he)))⟩
    have spot : 0 < len → ∃ b o, a = ⟨b, o, none⟩ := by
      intro h0
      obtain ⟨cs', h1, _⟩ := one 0 h0
      have h2 := (World.cells?_some h1).2.2 0 (by omega)
      have h3 : ∃ v, cs'[0]? = some v := by
        have := (World.cells?_some h1).2.1
        exact ⟨_, List.getElem?_eq_getElem (by omega)⟩
      obtain ⟨v, h3⟩ := h3
      rw [h3] at h2
      have hs := World.cell?_spot h2
      obtain ⟨b, o, s⟩ := a
      have : s = none := by simpa [Addr.add] using hs
      exact ⟨b, o, by rw [this]⟩
    by_cases h0 : len = 0
    · subst h0
      exact ⟨[], some a, 0, cap, rfl, rfl, Nat.zero_le _, hmax⟩
    · obtain ⟨b, o, rfl⟩ := spot (by omega)
      have all : ∀ j, j ≤ len → ∃ bs, BindsAt w (fun b => b < w.heap.size) bs (some ⟨b, o + (len - j) * 5, none⟩) j := by
        intro j
        induction j with
        | zero => exact fun _ => ⟨[], rfl⟩
        | succ j ihj =>
          intro hj
          obtain ⟨r, hr'⟩ := ihj (by omega)
          obtain ⟨cs', h1, nm, x, cp, cl, cc, rfl, hnm, ht⟩ := one (len - (j + 1)) (by omega)
          have g := (World.cells?_some h1).2.2
          have g0 := g 0 (by omega)
          have g1 := g 1 (by omega)
          have g2 := g 2 (by omega)
          have g3 := g 3 (by omega)
          have g4 := g 4 (by omega)
          simp only [WideShapes.add_plain, List.getElem?_cons_zero, List.getElem?_cons_succ, Nat.add_zero] at g0 g1 g2 g3 g4
          have hb := World.block_lt_of_cell? w ⟨b, o + (len - (j + 1)) * 5, none⟩ g0
          refine ⟨(nm, x) :: r, b, o + (len - (j + 1)) * 5, j, cp, cl, cc, rfl, rfl, by omega, hb, hb, hnm, g0, ⟨ht.size, ht.lc, ht.cm, g1, g2, g3, g4, ht.kids⟩, ?_⟩
          rw [show o + (len - (j + 1)) * 5 + 5 = o + (len - j) * 5 by omega]
          exact hr'
      obtain ⟨f, hf⟩ := all len (Nat.le_refl _)
      exact ⟨f, some ⟨b, o, none⟩, len, cap, rfl, by simpa using hf, hl, hmax⟩
end

end Go.Proofs.Ytccoihmibkpedaa

/-!
  What a tree is told to fit with makes the tree again, in plain Lean.
-/
namespace Go.Proofs.Ytccoihmibkpedaa

open Go.RowKit

/-- What is bound stays bound. -/
def Ext (bs bs' : List Bind) : Prop := ∀ nm y, bget bs nm = some y → bget bs' nm = some y
theorem Ext.refl (bs : List Bind) : Ext bs bs := fun _ _ h => h
theorem Ext.trans {a b c : List Bind} (h : Ext a b) (h' : Ext b c) : Ext a c := fun nm y hy => h' nm y (h nm y hy)
theorem Ext.snoc {bs : List Bind} {nm : ByteArray} {y : Nd} (h : bget bs nm = none) : Ext bs (bs ++ [(nm, y)]) := fun a z hz => by
  unfold bget at hz ⊢
  rw [List.find?_append]
  cases hf : bs.find? (fun e => decide (e.1 = a)) with
  | none => rw [hf] at hz; simp at hz
  | some e => rw [hf] at hz; simpa using hz
theorem bget_last {bs : List Bind} {nm : ByteArray} {y : Nd} (h : bget bs nm = none) : bget (bs ++ [(nm, y)]) nm = some y := by
  unfold bget at h ⊢
  rw [List.find?_append]
  cases hf : bs.find? (fun e => decide (e.1 = nm)) with
  | none => simp
  | some e => rw [hf] at h; simp at h
theorem bindF_ext {bs : List Bind} {nm : ByteArray} {n : Int} {t : ByteArray} {y : Nd} : Ext bs (bindF bs nm n t y).1 ∧ ((bindF bs nm n t y).2 = true → bget (bindF bs nm n t y).1 nm = some y) := by
  unfold bindF
  by_cases hl : likeF n t y = true
  · rw [if_pos hl]
    cases hb : bget bs nm with
    | none => exact ⟨Ext.snoc hb, fun _ => bget_last hb⟩
    | some z =>
      refine ⟨Ext.refl _, fun h => ?_⟩
      have : z = y := by simpa [eqN] using h
      rw [← this]; exact hb
  · rw [if_neg hl]
    exact ⟨Ext.refl _, fun h => by simp at h⟩
theorem fitFo_fill : ∀ (f g : Fo) (bs : List Bind), Ext bs (fitFo f g bs).1 ∧ (f.len = g.len → (fitFo f g bs).2 = true → ∀ bs', Ext (fitFo f g bs).1 bs' → fillFo bs' f = g) := by
  intro f
  induction f with
  | nil =>
    intro g bs
    cases g with
    | nil => exact ⟨Ext.refl _, fun _ _ _ _ => rfl⟩
    | cons k n t c r => exact ⟨Ext.refl _, fun h => by simp [Fo.len] at h⟩
  | cons k n t c r ihc ihr =>
    intro g bs
    cases g with
    | nil => exact ⟨Ext.refl _, fun h => by simp [Fo.len] at h⟩
    | cons k' n' t' c' r' =>
      have hone : Ext bs (fit1 k n t c ⟨k', n', t', c'⟩ bs).1 ∧ ((fit1 k n t c ⟨k', n', t', c'⟩ bs).2 = true → ∀ bs', Ext (fit1 k n t c ⟨k', n', t', c'⟩ bs).1 bs' → fill1 bs' ⟨k, n, t, c⟩ = ⟨k', n', t', c'⟩) := by
        unfold fit1
        cases hv : varF k with
        | some nm =>
          obtain ⟨h1, h2⟩ := bindF_ext (bs := bs) (nm := nm) (n := n) (t := t) (y := ⟨k', n', t', c'⟩)
          refine ⟨h1, fun h bs' he => ?_⟩
          have := he nm _ (h2 h)
          unfold fill1
          simp only [hv, this, Option.getD_some]
        | none =>
          simp only
          by_cases hc : k = k' ∧ n = n' ∧ t = t' ∧ c.len = c'.len
          · rw [if_pos hc]
            obtain ⟨h1, h2⟩ := ihc c' bs
            refine ⟨h1, fun h bs' he => ?_⟩
            have := h2 hc.2.2.2 h bs' he
            unfold fill1
            simp only [hv, this]
            obtain ⟨rfl, rfl, rfl, _⟩ := hc
            rfl
          · rw [if_neg hc]
            exact ⟨Ext.refl _, fun h => by simp at h⟩
      rw [fitFo_cons]
      by_cases h : (fit1 k n t c ⟨k', n', t', c'⟩ bs).2 = true
      · rw [if_pos h]
        obtain ⟨h1, h2⟩ := ihr r' (fit1 k n t c ⟨k', n', t', c'⟩ bs).1
        refine ⟨hone.1.trans h1, fun hl hh bs' he => ?_⟩
        have e1 := hone.2 h bs' (h1.trans he)
        have e2 := h2 (by simpa [Fo.len] using hl) hh bs' he
        rw [fillFo_cons, e1, e2]
      · rw [if_neg h]
        exact ⟨hone.1, fun _ hh => by simp at hh⟩
/-- THE FIRST HALF. -/
theorem fit1_fill {p t : Nd} (h : (fit1 p.k p.n p.t p.c t []).2 = true) : fill1 (fit1 p.k p.n p.t p.c t []).1 p = t := by
  unfold fit1 at h ⊢
  cases hv : varF p.k with
  | some nm =>
    rw [hv] at h
    have h2 := (bindF_ext (bs := []) (nm := nm) (n := p.n) (t := p.t) (y := t)).2 h
    unfold fill1
    simp only [hv]
    rw [h2]; rfl
  | none =>
    rw [hv] at h
    simp only at h ⊢
    by_cases hc : p.k = t.k ∧ p.n = t.n ∧ p.t = t.t ∧ p.c.len = t.c.len
    · rw [if_pos hc] at h ⊢
      have := (fitFo_fill p.c t.c []).2 hc.2.2.2 h _ (Ext.refl _)
      unfold fill1
      simp only [hv, this]
      rw [hc.1, hc.2.1, hc.2.2.1]
    · rw [if_neg hc] at h
      simp at h
end Go.Proofs.Ytccoihmibkpedaa

/-!
  match's lay, in plain Lean: the tree that is laid; what is known of the names; a list of kids that is built.
-/
namespace Go.Proofs.Ytccoihmibkpedaa

open Go.RowKit

/-- With names known, the filled tree; without, the tree itself. -/
def fl (m : Option (List Bind)) (x : Nd) : Nd := match m with
  | none => x
  | some bs => fill1 bs x
def flF (m : Option (List Bind)) (c : Fo) : Fo := match m with
  | none => c
  | some bs => fillFo bs c
theorem fillFo_drop (bs : List Bind) : ∀ {c : Fo} {j : Nat} {k n t s r}, c.drop j = .cons k n t s r → (fillFo bs c).drop j = .cons (fill1 bs ⟨k, n, t, s⟩).k (fill1 bs ⟨k, n, t, s⟩).n (fill1 bs ⟨k, n, t, s⟩).t (fill1 bs ⟨k, n, t, s⟩).c (fillFo bs r)
  | .nil, j, _, _, _, _, _, h => by rw [Fo.drop_nil] at h; simp at h
  | .cons k' n' t' s' r', 0, _, _, _, _, _, h => by
    simp only [Fo.drop] at h
    injection h with e1 e2 e3 e4 e5
    subst e1 e2 e3 e4 e5
    rw [Fo.drop, fillFo_cons]
  | .cons k' n' t' s' r', j + 1, _, _, _, _, _, h => by
    rw [fillFo_cons, Fo.drop]
    exact fillFo_drop bs (c := r') (j := j) h
theorem fillFo_len (bs : List Bind) (c : Fo) : (fillFo bs c).len = c.len := by
  induction c with
  | nil => rfl
  | cons k n t s r _ ih => rw [fillFo_cons, Fo.len, Fo.len, ih]
theorem flF_drop (m : Option (List Bind)) {c : Fo} {j : Nat} {k n t s r} (h : c.drop j = .cons k n t s r) : (flF m c).drop j = .cons (fl m ⟨k, n, t, s⟩).k (fl m ⟨k, n, t, s⟩).n (fl m ⟨k, n, t, s⟩).t (fl m ⟨k, n, t, s⟩).c (flF m r) := by
  cases m with
  | none => exact h
  | some bs => exact fillFo_drop bs h
theorem flF_len (m : Option (List Bind)) (c : Fo) : (flF m c).len = c.len := by
  cases m with
  | none => rfl
  | some bs => exact fillFo_len bs c
/-- What the map tells lay. -/
def KnownS (A : Nat → Prop) (Rb : Nat) (W : World) (kv : Value) (m : Option (List Bind)) : Prop := match m with
  | none => kv = .map none
  | some bs => ∃ Mb M n, kv = .map (some Mb) ∧ MapAt W Mb M n ∧ Mb ≠ Rb ∧ ∀ nm y, bget bs nm = some y → y.c.nodes < 1500 ∧ ∃ b o cp cl cc, M nm = some (.pointer (some ⟨b, o, none⟩)) ∧ A b ∧ b < W.heap.size ∧ NodeAt W A b o y.k y.n y.t y.c cp cl cc
theorem KnownS.keeps {A S : Nat → Prop} {Rb : Nat} {W W' : World} {kv : Value} {m : Option (List Bind)} (h : KnownS A Rb W kv m) (hk : Keeps S W W') (hS : ∀ b, S b → b = Rb) (hA : ∀ b, A b → b ≠ Rb) : KnownS A Rb W' kv m := by
  cases m with
  | none => exact h
  | some bs =>
    obtain ⟨Mb, M, n, h1, h2, h3, h4⟩ := h
    refine ⟨Mb, M, n, h1, h2.keeps hk (fun hs => h3 (hS _ hs)), h3, fun nm y hy => ?_⟩
    obtain ⟨g1, b, o, cp, cl, cc, g2, g3, g4, g5⟩ := h4 nm y hy
    exact ⟨g1, b, o, cp, cl, cc, g2, g3, Nat.lt_of_lt_of_le g4 hk.size, g5.keeps hk (fun x hx hs => hA x hx (hS _ hs)) g4 (fun hs => hA b g3 (hS _ hs))⟩
theorem fl_szok {A : Nat → Prop} {Rb : Nat} {W : World} {kv : Value} {m : Option (List Bind)} (h : KnownS A Rb W kv m) {k : ByteArray} {n : Int} {t : ByteArray} {c : Fo} (hs : szok k t) : szok (fl m ⟨k, n, t, c⟩).k (fl m ⟨k, n, t, c⟩).t := by
  cases m with
  | none => exact hs
  | some bs =>
    obtain ⟨Mb, M, n', h1, h2, h3, h4⟩ := h
    simp only [fl, fill1]
    cases hv : varF k with
    | none => exact hs
    | some nm =>
      simp only
      cases hg : bget bs nm with
      | none => exact ⟨by show (0 : Nat) ≤ _; omega, by show (0 : Nat) ≤ _; omega⟩
      | some y =>
        obtain ⟨_, b, o, cp, cl, cc, _, _, _, g⟩ := h4 nm y hg
        exact g.size
/-- All names are known. -/
def AllIn (m : Option (List Bind)) (k : ByteArray) (n : Int) (t : ByteArray) (c : Fo) : Prop := match m with
  | none => True
  | some bs => ∀ x ∈ Nd.all ⟨k, n, t, c⟩, ∀ nm, varF x.k = some nm → (bget bs nm).isSome = true
def mes (m : Option (List Bind)) (c : Fo) : Nat := match m with
  | none => c.nodes
  | some _ => c.nodes + 2000
/-- What lay gives: r: the count behind it, and whether it went through. -/
def LayR (Rb : Nat) (y : Nd) (r : Cnt × Bool × List ByteArray) (w : World) (e : Ending) (w' : World) : Prop :=
  Keeps (fun b => b = Rb) w w' ∧ ((r.2.1 = true ∧ ∃ cp cl cc bs, e = .returned (.tuple #[tv y.k y.n y.t cp cl cc, .bool true]) ∧ Own w' y.c cp cl cc bs ∧ News w' w.heap.size bs ∧ w'.heap[Rb]? = some (.cells #[.int .i64 r.1.nodes, .int .i64 r.1.bytes] 104 (0, 0))) ∨
    (r.2.1 = false ∧ e = .returned (.tuple #[tv e0 0 e0 none 0 0, .bool false])))
/-- One kid more; what changed ahead of it lies below. -/
theorem RowI.push' {D : Nat} {wr W2 Wp w3 : World} {S : Nat → Prop} {c : Fo} {j : Nat} {vp : Option Addr} {vl vc : Nat} {xs : List Value} {bs : List Nat} (hI : RowI D wr c j vp vl vc xs bs) (hDw : D ≤ wr.heap.size)
    {k1 : ByteArray} {n1 : Int} {t1 : ByteArray} {s1 r1 : Fo} {cp1 : Option Addr} {cl1 cc1 : Nat} {bs1 : List Nat} (hd : c.drop j = .cons k1 n1 t1 s1 r1) (ht1 : szok k1 t1)
    (ho : Own W2 s1 cp1 cl1 cc1 bs1) (hn : News W2 wr.heap.size bs1) (hk : Keeps S wr W2) (hS : ∀ b, S b → b < D) (hp : Keeps (fun _ => False) W2 Wp) {gg cap : Nat}
    (hrow : w3.ownsRow 0 T 4 (.slice (some ⟨gg, 0, none⟩) (j + 1) cap) (j + 1) (xs ++ [.string k1, .int .i64 n1, .string t1, .slice cp1 cl1 cc1]))
    (hg : Wp.grownBy w3 (Value.slice vp vl vc).ownBlock) (hat : (Value.slice vp vl vc).ownBlock = some gg ∨ gg = Wp.heap.size) (hlt : gg < w3.heap.size) :
    RowI D w3 c (j + 1) (some ⟨gg, 0, none⟩) (j + 1) cap (xs ++ [.string k1, .int .i64 n1, .string t1, .slice cp1 cl1 cc1]) (bs ++ bs1) ∧ Keeps (fun b => (Value.slice vp vl vc).ownBlock = some b) Wp w3 := by
  have h2 := hk.size
  have hp2 := hp.size
  have hsz3 := hg.size
  have hsb : ∀ x, (Value.slice vp vl vc).ownBlock = some x → x ∈ sb vp vl vc := fun x hx => by simp [sb, hx]
  have hnd := List.nodup_append.1 hI.news.nodup
  have hgg : D ≤ gg := by
    rcases hat with h | h
    · exact (hI.lo h).1
    · omega
  have hold : ∀ x, x < W2.heap.size → x ∉ sb vp vl vc → w3.heap[x]? = W2.heap[x]? := fun x hx hn1 => by
    rw [hg.block x (by omega) (fun e => hn1 (hsb _ e.symm)), hp.block x hx (fun h => h)]
  have hka : Keeps (fun b => (Value.slice vp vl vc).ownBlock = some b) Wp w3 := ⟨hg.os, hg.tape, hg.output, hg.size, fun x hx hn => hg.block x hx (fun e => hn e.symm)⟩
  refine ⟨⟨hrow, ?_, ?_⟩, hka⟩
  · rw [Fo.take_step hd]
    have hr2 : RowRep W2 (c.take j) xs bs := hI.rep.keeps hk (fun b hb => ⟨hI.news.hi b (List.mem_append.2 (.inr hb)), fun h => by have := hS b h; have := hI.news.lo b (List.mem_append.2 (.inr hb)); omega⟩)
    refine RowRep.snoc ht1 (ho.same fun b hb => ?_) (hr2.same fun b hb => ?_)
    · have h1 := hn.lo b hb
      refine hold b (hn.hi b hb) (fun h => ?_)
      have := hI.news.hi b (List.mem_append.2 (.inl h))
      omega
    · have h1 := hI.news.hi b (List.mem_append.2 (.inr hb))
      exact hold b (by omega) (fun h => hnd.2.2 b h b hb rfl)
  · have hmem : ∀ x, x ∈ bs ++ bs1 → D ≤ x ∧ x < W2.heap.size ∧ x ∉ sb vp vl vc := fun x hx => by
      rcases List.mem_append.1 hx with h | h
      · have h1 := hI.news.hi x (List.mem_append.2 (.inr h))
        exact ⟨hI.news.lo x (List.mem_append.2 (.inr h)), by omega, fun h' => hnd.2.2 x h' x h rfl⟩
      · have h1 := hn.lo x h
        exact ⟨by omega, hn.hi x h, fun h' => by have := hI.news.hi x (List.mem_append.2 (.inl h')); omega⟩
    have hsb2 : sb (some ⟨gg, 0, none⟩) (j + 1) cap = [gg] := rfl
    rw [hsb2]
    refine ⟨fun x hx => ?_, fun x hx => ?_, ?_⟩
    · rcases List.mem_append.1 hx with h | h
      · simp only [List.mem_singleton] at h; omega
      · exact (hmem x h).1
    · rcases List.mem_append.1 hx with h | h
      · simp only [List.mem_singleton] at h; omega
      · have := (hmem x h).2.1; omega
    · refine List.nodup_append.2 ⟨by simp, List.nodup_append.2 ⟨hnd.2.1, hn.nodup, fun a ha b hb e => ?_⟩, fun a ha b hb e => ?_⟩
      · have h1 := hI.news.hi a (List.mem_append.2 (.inr ha))
        have h3 := hn.lo b hb
        omega
      · simp only [List.mem_singleton] at ha
        have h1 := hmem b hb
        rcases hat with h | h
        · exact h1.2.2 (by rw [← e, ha]; exact hsb _ h)
        · omega
end Go.Proofs.Ytccoihmibkpedaa

/-!
  What Fill looks at, in plain Lean.
-/
namespace Go.Proofs.Ytccoihmibkpedaa

open Go.RowKit

def lack1 (bs : List Bind) (x : Nd) : Bool := match varF x.k with
  | some nm => (bget bs nm).isNone
  | none => false
def wrong1 (bs : List Bind) (x : Nd) : Bool := match varF x.k with
  | some nm => (match bget bs nm with
    | some y => !likeF x.n x.t y
    | none => false)
  | none => false
def lackB (bs : List Bind) (l : List Nd) : Bool := l.any (lack1 bs)
def wrongB (bs : List Bind) (l : List Nd) : Bool := l.any (wrong1 bs)
theorem nts_from {l : List Nd} (h : (vis fMay [] l).2 = true) (e : Note) : e ∈ nts l ↔ ∃ x ∈ l, varF x.k = some e.1 ∧ e.2 = (x.n, x.t) := by
  constructor
  · intro he
    have hnd := nts_nodup l
    have h1 : nget (nts l) e.1 = some e.2 := by
      have key : ∀ (L : List Note), (L.map (·.1)).Nodup → e ∈ L → nget L e.1 = some e.2 := by
        intro L
        induction L with
        | nil => intro _ h; simp at h
        | cons a r ih =>
          intro hn hm
          simp only [List.map_cons, List.nodup_cons] at hn
          unfold nget
          rw [List.find?_cons]
          rcases List.mem_cons.1 hm with rfl | hm
          · simp
          · have hne : a.1 ≠ e.1 := fun h => hn.1 (h ▸ List.mem_map.2 ⟨e, hm, rfl⟩)
            rw [show decide (a.1 = e.1) = false by simpa using hne]
            exact ih hn.2 hm
      exact key _ hnd he
    obtain ⟨x, hx, hv, hxe⟩ := nts_size h1
    exact ⟨x, hx, hv, hxe⟩
  · rintro ⟨x, hx, hv, hxe⟩
    have := nget_mem (may_facts l h x hx e.1 hv).2
    rw [← hxe] at this
    exact this
theorem wrongF_eq {bs : List Bind} {l : List Nd} (h : (vis fMay [] l).2 = true) : wrongF bs (nts l) = if lackB bs l then 3 else if wrongB bs l then 41 else 0 := by
  have h1 : (nts l).all (fun e => (bget bs e.1).isSome) = !lackB bs l := by
    rw [Bool.eq_iff_iff]
    simp only [List.all_eq_true, Bool.not_eq_true', lackB, List.any_eq_false]
    constructor
    · intro ha x hx
      unfold lack1
      cases hv : varF x.k with
      | none => simp
      | some nm =>
        have := ha (nm, (x.n, x.t)) ((nts_from h _).2 ⟨x, hx, hv, rfl⟩)
        simp only at this ⊢
        cases hb : bget bs nm with
        | none => rw [hb] at this; simp at this
        | some y => simp
    · intro ha e he
      obtain ⟨x, hx, hv, _⟩ := (nts_from h e).1 he
      have := ha x hx
      unfold lack1 at this
      rw [hv] at this
      simp only at this
      cases hb : bget bs e.1 with
      | none => rw [hb] at this; simp at this
      | some y => rfl
  have h2 : ((nts l).all (fun e => match bget bs e.1 with | some y => likeF e.2.1 e.2.2 y | none => true)) = !wrongB bs l := by
    rw [Bool.eq_iff_iff]
    simp only [List.all_eq_true, Bool.not_eq_true', wrongB, List.any_eq_false]
    constructor
    · intro ha x hx
      unfold wrong1
      cases hv : varF x.k with
      | none => simp
      | some nm =>
        have := ha (nm, (x.n, x.t)) ((nts_from h _).2 ⟨x, hx, hv, rfl⟩)
        simp only at this ⊢
        cases hb : bget bs nm with
        | none => simp
        | some y => rw [hb] at this; simp only at this ⊢; simp [this]
    · intro ha e he
      obtain ⟨x, hx, hv, hxe⟩ := (nts_from h e).1 he
      have := ha x hx
      unfold wrong1 at this
      rw [hv] at this
      simp only at this
      cases hb : bget bs e.1 with
      | none => rfl
      | some y =>
        rw [hb] at this
        simp only [hxe] at this ⊢
        simpa using this
  have h3 : wrongF bs (nts l) = if (!lackB bs l) = true then (if (!wrongB bs l) = true then 0 else 41) else 3 := by
    rw [← h1, ← h2]
    rfl
  rw [h3]
  cases lackB bs l <;> cases wrongB bs l <;> simp
/-- One argument. -/
def arg1 (acc : List Bind) (e : Bind) : Bool := !(bget acc e.1).isSome && wordB e.1.data.toList && decide (mayF e.2 = 0)
theorem argsF_cons (acc : List Bind) (e : Bind) (r : List Bind) : argsF acc (e :: r) = (arg1 acc e && argsF (acc ++ [e]) r) := by
  simp only [argsF, arg1]
  cases wordB e.1.data.toList <;> cases decide (mayF e.2 = 0) <;> cases (bget acc e.1).isSome <;> simp
theorem argsF_ok : ∀ (r acc : List Bind), argsF acc r = true → ∀ e ∈ r, wordB e.1.data.toList = true ∧ mayF e.2 = 0
  | [], _, _, e, he => by simp at he
  | a :: r, acc, h, e, he => by
    rw [argsF_cons, Bool.and_eq_true] at h
    rcases List.mem_cons.1 he with rfl | he
    · have := h.1
      simp only [arg1, Bool.and_eq_true, decide_eq_true_eq] at this
      exact ⟨this.1.2, this.2⟩
    · exact argsF_ok r _ h.2 e he
theorem lack_all {bs : List Bind} {k : ByteArray} {n : Int} {t : ByteArray} {c : Fo} (h : lackB bs (Nd.all ⟨k, n, t, c⟩) = false) : AllIn (some bs) k n t c := by
  intro x hx nm hv
  simp only [lackB, List.any_eq_false] at h
  have := h x hx
  unfold lack1 at this
  rw [hv] at this
  simp only at this
  cases hb : bget bs nm with
  | none => rw [hb] at this; simp at this
  | some y => rfl
end Go.Proofs.Ytccoihmibkpedaa

/-!
  What Fits gives may be handed to Fill, in plain Lean.
-/
namespace Go.Proofs.Ytccoihmibkpedaa

open Go.RowKit

theorem argsF_of : ∀ (r acc : List Bind), (∀ e ∈ r, wordB e.1.data.toList = true ∧ mayF e.2 = 0) → ((acc ++ r).map (·.1)).Nodup → argsF acc r = true
  | [], _, _, _ => rfl
  | e :: r, acc, h, hn => by
    rw [argsF_cons]
    have h1 := h e (List.mem_cons_self ..)
    have h2 : (bget acc e.1).isSome = false := by
      rw [Bool.eq_false_iff]
      intro hs
      have hm := bget_iff.1 hs
      rw [List.map_append, List.nodup_append] at hn
      exact hn.2.2 _ hm _ (by simp) rfl
    have h3 := argsF_of r (acc ++ [e]) (fun x hx => h x (List.mem_cons_of_mem _ hx)) (by simpa using hn)
    rw [h3]
    simp [arg1, h1.1, h1.2, h2]
/-- A list all of whose bounds are of a kind stays so. -/
theorem bindF_all {Q : ByteArray → Nd → Prop} {bs : List Bind} {nm : ByteArray} {n : Int} {t : ByteArray} {y : Nd} (h : ∀ e ∈ bs, Q e.1 e.2) (hq : likeF n t y = true → Q nm y) : ∀ e ∈ (bindF bs nm n t y).1, Q e.1 e.2 := by
  unfold bindF
  by_cases hl : likeF n t y = true
  · rw [if_pos hl]
    cases hb : bget bs nm with
    | none =>
      intro e he
      rcases List.mem_append.1 he with he | he
      · exact h e he
      · simp only [List.mem_singleton] at he
        subst he
        exact hq hl
    | some z => exact h
  · rw [if_neg hl]; exact h
theorem fitFo_all (P T : List Nd) : ∀ (f g : Fo) (bs : List Bind), (∀ x ∈ f.all, x ∈ P) → (∀ y ∈ g.all, y ∈ T) → (∀ e ∈ bs, e.2 ∈ T ∧ ∃ x ∈ P, varF x.k = some e.1 ∧ likeF x.n x.t e.2 = true) → ∀ e ∈ (fitFo f g bs).1, e.2 ∈ T ∧ ∃ x ∈ P, varF x.k = some e.1 ∧ likeF x.n x.t e.2 = true := by
  intro f
  induction f with
  | nil => intro g bs _ _ hb; cases g <;> exact hb
  | cons k n t c r ihc ihr =>
    intro g bs hf hg hb
    cases g with
    | nil => exact hb
    | cons k' n' t' c' r' =>
      have hone : ∀ e ∈ (fit1 k n t c ⟨k', n', t', c'⟩ bs).1, e.2 ∈ T ∧ ∃ x ∈ P, varF x.k = some e.1 ∧ likeF x.n x.t e.2 = true := by
        unfold fit1
        cases hv : varF k with
        | some nm => exact bindF_all (Q := fun a y => y ∈ T ∧ ∃ x ∈ P, varF x.k = some a ∧ likeF x.n x.t y = true) hb (fun hl => ⟨hg _ (by simp [Fo.all]), ⟨k, n, t, c⟩, hf _ (by simp [Fo.all]), hv, hl⟩)
        | none =>
          simp only
          split
          · exact ihc c' bs (fun x hx => hf x (by simp [Fo.all, hx])) (fun x hx => hg x (by simp [Fo.all, hx])) hb
          · exact hb
      rw [fitFo_cons]
      split
      · exact ihr r' _ (fun x hx => hf x (by simp [Fo.all, hx])) (fun x hx => hg x (by simp [Fo.all, hx])) hone
      · exact hone
/-- The parts of a tree. -/
theorem Fo.part : ∀ (f : Fo), ∀ y ∈ f.all, y.nodes ≤ f.nodes ∧ y.depth ≤ f.depth ∧ y.bytes ≤ f.bytes ∧ ∀ k ∈ y.k :: y.c.kinds, k ∈ f.kinds := by
  intro f
  induction f with
  | nil => intro y hy; simp [Fo.all] at hy
  | cons k n t c r ihc ihr =>
    intro y hy
    simp only [Fo.all, List.mem_cons, List.mem_append] at hy
    rcases hy with rfl | hy | hy
    · refine ⟨?_, ?_, ?_, ?_⟩
      · simp only [Nd.nodes, Fo.nodes]; omega
      · simp only [Nd.depth, Fo.depth]; omega
      · simp only [Nd.bytes, Fo.bytes]; omega
      · intro a ha
        simp only [Fo.kinds, List.mem_append]
        exact .inl ha
    · obtain ⟨h1, h2, h3, h4⟩ := ihc y hy
      refine ⟨?_, ?_, ?_, ?_⟩
      · simp only [Fo.nodes]; omega
      · simp only [Fo.depth]; omega
      · simp only [Fo.bytes]; omega
      · intro a ha
        simp only [Fo.kinds, List.mem_append, List.mem_cons]
        exact .inl (.inr (h4 a ha))
    · obtain ⟨h1, h2, h3, h4⟩ := ihr y hy
      refine ⟨?_, ?_, ?_, ?_⟩
      · simp only [Fo.nodes]; omega
      · simp only [Fo.depth]; omega
      · simp only [Fo.bytes]; omega
      · intro a ha
        simp only [Fo.kinds, List.mem_append]
        exact .inr (h4 a ha)
theorem mayF_part {x : Nd} (h : mayF x = 0) : ∀ y ∈ x.all, mayF y = 0 := by
  intro y hy
  have hsm := mayF_small h
  have hnm : x.named = true := by
    unfold mayF at h
    rw [if_pos hsm] at h
    by_cases hn : x.named = true
    · exact hn
    · rw [if_neg hn] at h; simp at h
  simp only [Nd.all, List.mem_cons] at hy
  rcases hy with rfl | hy
  · exact h
  · obtain ⟨h1, h2, h3, h4⟩ := Fo.part x.c y hy
    obtain ⟨g1, g2, g3⟩ := hsm
    have hs : y.small := by
      refine ⟨?_, ?_, ?_⟩
      · simp only [Nd.nodes] at g1 ⊢; simp only [Nd.nodes] at h1; omega
      · simp only [Nd.depth] at g2 ⊢; simp only [Nd.depth] at h2; omega
      · simp only [Nd.bytes] at g3 ⊢; simp only [Nd.bytes] at h3; omega
    have hn : y.named = true := by
      unfold Nd.named namedL at hnm ⊢
      rw [List.all_eq_true] at hnm ⊢
      exact fun a ha => hnm a (List.mem_cons_of_mem _ (h4 a ha))
    unfold mayF
    rw [if_pos hs, if_pos hn]
theorem fit1_all {p t : Nd} : ∀ e ∈ (fit1 p.k p.n p.t p.c t []).1, e.2 ∈ t.all ∧ ∃ x ∈ p.all, varF x.k = some e.1 ∧ likeF x.n x.t e.2 = true := by
  unfold fit1
  cases hv : varF p.k with
  | some nm => exact bindF_all (Q := fun a y => y ∈ t.all ∧ ∃ x ∈ p.all, varF x.k = some a ∧ likeF x.n x.t y = true) (fun e he => by simp at he) (fun hl => ⟨by simp [Nd.all], p, by simp [Nd.all], hv, hl⟩)
  | none =>
    simp only
    split
    · exact fitFo_all p.all t.all p.c t.c [] (fun x hx => by simp [Nd.all, hx]) (fun x hx => by simp [Nd.all, hx]) (fun e he => by simp at he)
    · intro e he; simp at he
/-- What a tree is told to fit with makes the tree again. -/
theorem fits_fill {p t : Nd} {bs : List Bind} (h : fitsF p t = some bs) : fillF p bs = (t, 0) ∧ pmayF p = 0 := by
  unfold fitsF at h
  split at h
  · rename_i hh
    obtain ⟨hp, ht, hf⟩ := hh
    simp only [Option.some.injEq] at h
    subst h
    have hpo := patOK_of hp
    have hvis := (pmayF_zero hp).2
    have hnm := fit1_names hpo hf
    have hall := fit1_all (p := p) (t := t)
    have hargs : argsF [] (fit1 p.k p.n p.t p.c t []).1 = true := by
      refine argsF_of _ _ (fun e he => ⟨(nts_word (l := p.all) (by rw [← hnm]; exact List.mem_map.2 ⟨e, he, rfl⟩)).1, mayF_part ht _ (hall e he).1⟩) ?_
      rw [List.nil_append, hnm]
      exact nts_nodup _
    have hw : wrongF (fit1 p.k p.n p.t p.c t []).1 (nts p.all) = 0 := by
      unfold wrongF
      rw [if_pos, if_pos]
      · rw [List.all_eq_true]
        intro e he
        cases hb : bget (fit1 p.k p.n p.t p.c t []).1 e.1 with
        | none => rfl
        | some y =>
          obtain ⟨x, hx, hv, hxe⟩ := (nts_from hvis e).1 he
          obtain ⟨_, x', hx', hv', hl⟩ := hall _ (bget_some hb).2
          obtain ⟨e1, e2⟩ := hpo.same x hx x' hx' e.1 hv hv'
          simp only [hxe]
          rw [e1, e2]; exact hl
      · rw [List.all_eq_true]
        intro e he
        exact bget_iff.2 (by rw [hnm]; exact List.mem_map.2 ⟨e, he, rfl⟩)
    refine ⟨?_, hp⟩
    unfold fillF
    rw [if_pos hp, if_pos hargs, if_pos hw, fit1_fill hf, if_pos (mayF_small ht)]
  · simp at h
end Go.Proofs.Ytccoihmibkpedaa

/-!
  What a pattern is filled with is what the tree that comes fits with, in plain Lean.
-/
namespace Go.Proofs.Ytccoihmibkpedaa

open Go.RowKit

theorem bindF_ok {bs acc : List Bind} {nm : ByteArray} {n : Int} {t : ByteArray} {y : Nd} (hb : bget bs nm = some y) (hl : likeF n t y = true) (he : Ext acc bs) : (bindF acc nm n t y).2 = true ∧ Ext (bindF acc nm n t y).1 bs := by
  unfold bindF
  rw [if_pos hl]
  cases hg : bget acc nm with
  | none =>
    refine ⟨rfl, fun a w hw => ?_⟩
    by_cases ha : a = nm
    · subst ha
      rw [bget_last hg] at hw
      rw [hb]; exact hw
    · refine he a w ?_
      unfold bget at hw ⊢
      rw [List.find?_append] at hw
      cases hf : acc.find? (fun e => decide (e.1 = a)) with
      | none =>
        rw [hf] at hw
        simp only [Option.none_or] at hw
        rw [List.find?_cons, show decide ((nm, y).1 = a) = false by simpa using fun h => ha h.symm] at hw
        simp at hw
      | some e => rw [hf] at hw; simpa using hw
  | some z =>
    have := he nm z hg
    rw [hb] at this
    simp only [Option.some.injEq] at this
    subst this
    exact ⟨by simp [eqN], he⟩
theorem fillFo_fit {bs : List Bind} {P : List Nd} (hlike : ∀ x ∈ P, ∀ nm, varF x.k = some nm → ∃ y, bget bs nm = some y ∧ likeF x.n x.t y = true) : ∀ (f : Fo) (acc : List Bind), (∀ x ∈ f.all, x ∈ P) → Ext acc bs → (fitFo f (fillFo bs f) acc).2 = true ∧ Ext (fitFo f (fillFo bs f) acc).1 bs := by
  intro f
  induction f with
  | nil => intro acc _ he; exact ⟨rfl, he⟩
  | cons k n t c r ihc ihr =>
    intro acc hP he
    have hone : (fit1 k n t c (fill1 bs ⟨k, n, t, c⟩) acc).2 = true ∧ Ext (fit1 k n t c (fill1 bs ⟨k, n, t, c⟩) acc).1 bs := by
      unfold fit1
      cases hv : varF k with
      | some nm =>
        obtain ⟨y, hb, hl⟩ := hlike ⟨k, n, t, c⟩ (hP _ (by simp [Fo.all])) nm hv
        have hf : fill1 bs ⟨k, n, t, c⟩ = y := by unfold fill1; simp only [hv, hb, Option.getD_some]
        rw [hf]
        exact bindF_ok hb hl he
      | none =>
        have hf : fill1 bs ⟨k, n, t, c⟩ = ⟨k, n, t, fillFo bs c⟩ := by unfold fill1; simp only [hv]
        rw [hf]
        simp only
        rw [if_pos ⟨trivial, trivial, trivial, (fillFo_len bs c).symm⟩]
        exact ihc acc (fun x hx => hP x (by simp [Fo.all, hx])) he
    rw [fillFo_cons, fitFo_cons]
    rw [if_pos hone.1]
    exact ihr _ (fun x hx => hP x (by simp [Fo.all, hx])) hone.2
theorem fillFo_kinds {bs : List Bind} {Q : ByteArray → Prop} (hb : ∀ nm y, bget bs nm = some y → ∀ k ∈ y.k :: y.c.kinds, Q k) : ∀ (f : Fo), (∀ x ∈ f.all, ∀ nm, varF x.k = some nm → (bget bs nm).isSome = true) → (∀ k ∈ f.kinds, Q k) → ∀ k ∈ (fillFo bs f).kinds, Q k := by
  intro f
  induction f with
  | nil => intro _ _ k hk; simp [fillFo, Fo.kinds] at hk
  | cons k n t c r ihc ihr =>
    intro hv hq a ha
    rw [fillFo_cons] at ha
    simp only [Fo.kinds, List.mem_append] at ha
    rcases ha with ha | ha
    · unfold fill1 at ha
      cases hvk : varF k with
      | some nm =>
        have hs := hv ⟨k, n, t, c⟩ (by simp [Fo.all]) nm hvk
        obtain ⟨y, hy⟩ := Option.isSome_iff_exists.1 hs
        simp only [hvk, hy, Option.getD_some] at ha
        exact hb nm y hy a ha
      | none =>
        simp only [hvk] at ha
        rcases List.mem_cons.1 ha with rfl | ha
        · exact hq _ (by simp [Fo.kinds])
        · exact ihc (fun x hx => hv x (by simp [Fo.all, hx])) (fun k' hk' => hq k' (by simp [Fo.kinds, hk'])) a ha
    · exact ihr (fun x hx => hv x (by simp [Fo.all, hx])) (fun k' hk' => hq k' (by simp [Fo.kinds, hk'])) a ha
end Go.Proofs.Ytccoihmibkpedaa

/-!
  MatchBack: its plain law, second half.
-/
namespace Go.Proofs.Ytccoihmibkpedaa

open Go.RowKit

theorem named_of {x : Nd} (h : mayF x = 0) : namedL (x.k :: x.c.kinds) = true := by
  unfold mayF at h
  rw [if_pos (mayF_small h)] at h
  by_cases hn : x.named = true
  · exact hn
  · rw [if_neg hn] at h; simp at h
/-- What a pattern is filled with is what the tree that comes fits with. -/
theorem fill_fits {p u : Nd} {bs : List Bind} (h : fillF p bs = (u, 0)) : ∃ m, fitsF p u = some m ∧ m.map (·.1) = namesF p ∧ ∀ e ∈ m, e ∈ bs := by
  unfold fillF at h
  by_cases hp : pmayF p = 0
  · rw [if_pos hp] at h
    by_cases ha : argsF [] bs = true
    · rw [if_pos ha] at h
      by_cases hw : wrongF bs (nts p.all) = 0
      · rw [if_pos hw] at h
        by_cases hs : (fill1 bs p).small
        · rw [if_pos hs] at h
          simp only [Prod.mk.injEq, and_true] at h
          subst h
          have hpo := patOK_of hp
          have hvis := (pmayF_zero hp).2
          have hpm := (pmayF_zero hp).1
          have hlike : ∀ x ∈ p.all, ∀ nm, varF x.k = some nm → ∃ y, bget bs nm = some y ∧ likeF x.n x.t y = true := by
            intro x hx nm hv
            rw [wrongF_eq hvis] at hw
            have h1 : lackB bs p.all = false := by cases hl : lackB bs p.all with
              | false => rfl
              | true => rw [hl] at hw; simp at hw
            have h2 : wrongB bs p.all = false := by cases hl : wrongB bs p.all with
              | false => rfl
              | true => rw [h1, hl] at hw; simp at hw
            have h3 := List.any_eq_false.1 h1 x hx
            have h4 := List.any_eq_false.1 h2 x hx
            unfold lack1 at h3
            unfold wrong1 at h4
            rw [hv] at h3 h4
            simp only at h3 h4
            cases hb : bget bs nm with
            | none => rw [hb] at h3; simp at h3
            | some y => rw [hb] at h4; exact ⟨y, rfl, by simpa using h4⟩
          have hbok : ∀ nm y, bget bs nm = some y → ∀ k ∈ y.k :: y.c.kinds, kindB k.data.toList = true := fun nm y hy => by
            have h1 := (argsF_ok bs [] ha (nm, y) (bget_some hy).2).2
            exact List.all_eq_true.1 (named_of h1)
          have hpk := List.all_eq_true.1 (named_of hpm)
          have hfit : (fit1 p.k p.n p.t p.c (fill1 bs p) []).2 = true ∧ Ext (fit1 p.k p.n p.t p.c (fill1 bs p) []).1 bs := by
            have hE : Ext [] bs := fun nm y hy => by simp [bget] at hy
            unfold fit1
            cases hv : varF p.k with
            | some nm =>
              obtain ⟨y, hb, hl⟩ := hlike p (by simp [Nd.all]) nm hv
              have hf : fill1 bs p = y := by unfold fill1; simp only [hv, hb, Option.getD_some]
              rw [hf]
              exact bindF_ok hb hl hE
            | none =>
              have hf : fill1 bs p = ⟨p.k, p.n, p.t, fillFo bs p.c⟩ := by unfold fill1; simp only [hv]
              rw [hf]
              simp only
              rw [if_pos ⟨trivial, trivial, trivial, (fillFo_len bs p.c).symm⟩]
              exact fillFo_fit hlike p.c [] (fun x hx => by simp [Nd.all, hx]) hE
          have hnm : (fill1 bs p).named = true := by
            unfold Nd.named namedL
            rw [List.all_eq_true]
            unfold fill1
            cases hv : varF p.k with
            | some nm =>
              obtain ⟨y, hb, _⟩ := hlike p (by simp [Nd.all]) nm hv
              simp only [hb, Option.getD_some]
              exact hbok nm y hb
            | none =>
              intro k hk
              simp only at hk
              rcases List.mem_cons.1 hk with rfl | hk
              · exact hpk _ (List.mem_cons_self ..)
              · exact fillFo_kinds (Q := fun k => kindB k.data.toList = true) hbok p.c (fun x hx nm hv => by obtain ⟨y, hy, _⟩ := hlike x (by simp [Nd.all, hx]) nm hv; rw [hy]; rfl) (fun k hk => hpk k (List.mem_cons_of_mem _ hk)) k hk
          have hmu : mayF (fill1 bs p) = 0 := by unfold mayF; rw [if_pos hs, if_pos hnm]
          have hn := fit1_names hpo hfit.1
          refine ⟨(fit1 p.k p.n p.t p.c (fill1 bs p) []).1, by unfold fitsF; rw [if_pos ⟨hp, hmu, hfit.1⟩], by rw [hn]; unfold namesF; rw [if_pos hp], fun e he => ?_⟩
          obtain ⟨i, hi⟩ := List.getElem?_of_mem he
          have hb := bget_at (by rw [hn]; exact nts_nodup _) (nm := e.1) (y := e.2) hi
          exact (bget_some (hfit.2 e.1 e.2 hb)).2
        · rw [if_neg hs] at h; simp at h
      · rw [if_neg hw] at h
        simp only [Prod.mk.injEq] at h
        exact absurd h.2 hw
    · rw [if_neg ha] at h; simp at h
  · rw [if_neg hp] at h
    simp only [Prod.mk.injEq] at h
    exact absurd h.2 hp
end Go.Proofs.Ytccoihmibkpedaa

/-!
  MatchBack: Find tells just the places whose trees fit, in plain Lean.
-/
namespace Go.Proofs.Ytccoihmibkpedaa

open Go.RowKit

theorem preK_part : ∀ (f : Fo) (p : List Int) (i : Nat), ∀ e ∈ preK p i f, e.2 ∈ f.all := by
  intro f
  induction f with
  | nil => intro p i e he; simp [preK] at he
  | cons k n t c r ihc ihr =>
    intro p i e he
    rw [preK_cons] at he
    simp only [pre, List.cons_append, List.mem_cons, List.mem_append] at he
    simp only [Fo.all, List.mem_cons, List.mem_append]
    rcases he with rfl | he | he
    · exact .inl rfl
    · exact .inr (.inl (ihc _ _ e he))
    · exact .inr (.inr (ihr _ _ e he))
theorem pre_part {p : List Int} {x : Nd} : ∀ e ∈ pre p x, e.2 ∈ x.all := by
  intro e he
  simp only [pre, List.mem_cons] at he
  simp only [Nd.all, List.mem_cons]
  rcases he with rfl | he
  · exact .inl rfl
  · exact .inr (preK_part _ _ _ e he)
theorem findF_fits {p t : Nd} (ht : mayF t = 0) (hp : pmayF p = 0) : findF p t = ((pre [] t).filter (fun e => (fitsF p e.2).isSome)).map (·.1) := by
  unfold findF
  rw [if_pos ⟨hp, ht⟩]
  congr 1
  refine List.filter_congr fun e he => ?_
  have hm := mayF_part ht _ (pre_part e he)
  unfold fitsF
  by_cases h : (fit1 p.k p.n p.t p.c e.2 []).2 = true
  · rw [if_pos ⟨hp, hm, h⟩, h]; rfl
  · rw [if_neg (fun hh => h hh.2.2)]
    simpa using h
end Go.Proofs.Ytccoihmibkpedaa

/-!
  match.Fits: its walk.
-/
namespace Go.Proofs.Ytccoihmibkpedaa

open Go.RowKit

theorem Try.bndInfo : (Try.prog.info? 33).map (fun i => (i.zero, i.size, i.bytes)) = some (some (.agg #[.string ByteArray.empty, .string ByteArray.empty, .int .i64 0, .string ByteArray.empty, .slice none 0 0]), 5, 80) := by kernel_rfl
/-- What Fits gives. -/
noncomputable def fitsB (p t : Nd) : List Bind := (fitsF p t).getD []
def FitsR (bs : List Bind) (ok : Bool) (w : World) (e : Ending) (w' : World) : Prop :=
  ∃ lp ll lc xs blks, e = .returned (.tuple #[.slice lp ll lc, .bool ok]) ∧ BindsI w.heap.size w' bs lp ll lc xs blks ∧ Keeps (fun _ => False) w w'
theorem FitsR.no {w w' : World} (hk : Keeps (fun _ => False) w w') : FitsR [] false w (.returned (.tuple #[.slice none 0 0, .bool false])) w' :=
  ⟨none, 0, 0, [], [], rfl, BindsI.start _ _, hk⟩
set_option maxRecDepth 100000 in
set_option maxHeartbeats 3200000 in
theorem Fits_any (p t : Nd) (cp tp : Option Addr) (cl cc tl tc : Nat) (A A' : Nat → Prop) (w : World) (h : Tv w A p.k p.t p.c cp cl cc) (h' : Tv w A' t.k t.t t.c tp tl tc) :
    Calls Try.prog 14 #[tv p.k p.n p.t cp cl cc, tv t.k t.n t.t tp tl tc] w (FitsR (fitsB p t) (fitsF p t).isSome w) := by
  have hmm := @run_makeMap Try.prog
  obtain ⟨W1, hW1⟩ : ∃ W1, W1 = ((w.alloc (.cells (four p.k p.n p.t cp cl cc) T)).alloc (.cells (four t.k t.n t.t tp tl tc) T)).alloc (.map #[] 0) := ⟨_, rfl⟩
  have hK : Keeps (fun _ => False) w W1 := by rw [hW1]; exact (((Keeps.refl _ w).alloc _).alloc _).alloc _
  have hs1 : W1.heap.size = w.heap.size + 3 := by rw [hW1]; simp
  have hb1 : W1.heap[w.heap.size]? = some (.cells (four p.k p.n p.t cp cl cc) T (0, 0)) := by
    rw [hW1]
    exact (((Keeps.refl (fun _ => False) (w.alloc (.cells (four p.k p.n p.t cp cl cc) T))).alloc _).alloc _).heap (heap_alloc_new _ _)
  have hb2 : W1.heap[w.heap.size + 1]? = some (.cells (four t.k t.n t.t tp tl tc) T (0, 0)) := by
    rw [hW1]
    have := ((Keeps.refl (fun _ => False) ((w.alloc (.cells (four p.k p.n p.t cp cl cc) T)).alloc (.cells (four t.k t.n t.t tp tl tc) T))).alloc (.map #[] 0)).heap (heap_alloc_new (w.alloc (.cells (four p.k p.n p.t cp cl cc) T)) (.cells (four t.k t.n t.t tp tl tc) T))
    simpa using this
  have hMp : MapAt W1 (w.heap.size + 1 + 1) noM 0 := by
    rw [hW1]
    have := MapAt.made ((w.alloc (.cells (four p.k p.n p.t cp cl cc) T)).alloc (.cells (four t.k t.n t.t tp tl tc) T))
    simpa using this
  have hp1 := h.top.next hK
  have ht1 := h'.top.next hK
  have hn1 : NodeAt W1 (fun b => b < w.heap.size + 2) w.heap.size 0 p.k p.n p.t p.c cp cl cc := by
    obtain ⟨r0, r1, r2, r3, _⟩ := box4 hb1
    exact ⟨hp1.size, hp1.lc, hp1.cm, r0, r1, r2, r3, hp1.kids.mono (fun b hb => by omega)⟩
  have hn2 : NodeAt W1 (fun b => b < w.heap.size + 2) (w.heap.size + 1) 0 t.k t.n t.t t.c tp tl tc := by
    obtain ⟨r0, r1, r2, r3, _⟩ := box4 hb2
    exact ⟨ht1.size, ht1.lc, ht1.cm, r0, r1, r2, r3, ht1.kids.mono (fun b hb => by omega)⟩
  have hm1 : Hid (∀ W, Keeps (fun _ => False) W1 W → Calls Try.prog 28 #[tv p.k p.n p.t cp cl cc] W fun e w' => e = .returned (.int .i64 (pmayF p)) ∧ Keeps (fun _ => False) W w') := Lib.hid fun W hk => pMay_any p cp cl cc _ W (hp1.next hk)
  have hm2 : Hid (∀ W, Keeps (fun _ => False) W1 W → Calls Try.prog 30 #[tv t.k t.n t.t tp tl tc] W fun e w' => e = .returned (.int .i64 (mayF t)) ∧ Keeps (fun _ => False) W w') := Lib.hid fun W hk => May_any t tp tl tc _ W (ht1.next hk)
  obtain ⟨b0, b1, b2, b3, _⟩ := box4 hb1
  obtain ⟨d0, d1, d2, d3, _⟩ := box4 hb2
  obtain ⟨rp, hrp⟩ : ∃ r, pmayF p = r := ⟨_, rfl⟩
  obtain ⟨rt, hrt⟩ : ∃ r, mayF t = r := ⟨_, rfl⟩
  rw [hrp] at hm1
  rw [hrt] at hm2
  have HW := Lib.hid hW1
  have HB1 := Lib.hid hb1
  have HB2 := Lib.hid hb2
  have HS1 := Lib.hid hs1
  have HN1 := Lib.hid hn1
  have HN2 := Lib.hid hn2
  have HMP := Lib.hid hMp
  clear hW1 hb1 hb2 hs1 hn1 hn2 hMp
  by_cases h1 : rp = 0
  · by_cases h2 : rt = 0
    · subst h1
      subst h2
      have hpo := patOK_of hrp
      have hsp : p.small := mayF_small (pmayF_zero hrp).1
      have hst : t.small := mayF_small hrt
      have hsw : w.heap.size + 2 < W1.heap.size := by have := HS1.out; omega
      have hfit : Hid (∀ W, Keeps (fun _ => False) W1 W → Calls Try.prog 52 #[.pointer (some ⟨w.heap.size, 0, none⟩), .pointer (some ⟨w.heap.size + 1, 0, none⟩), .map (some (w.heap.size + 1 + 1))] W (FitR (fun b => b < w.heap.size + 2) p.all (w.heap.size + 1 + 1) (fit1 p.k p.n p.t p.c t []) W)) := Lib.hid fun W hk => by
        refine fits_any (fun b => b < w.heap.size + 2) (fun b => b < w.heap.size + 2) p.all (w.heap.size + 1 + 1) hpo (fun b hb => by omega) (fun b hb => by omega) (p.c.nodes + 1) p.k p.n p.t p.c w.heap.size 0 cp cl cc t (w.heap.size + 1) 0 tp tl tc [] W (by omega) (fun x hx => hx) (by show w.heap.size < _; omega) (by have := hk.size; omega) (by show w.heap.size + 1 < _; omega) (by have := hk.size; omega) (HN1.out.next hk (by omega)) (HN2.out.next hk (by omega)) hst ⟨noM, 0, HMP.out.keeps hk (fun h => h), by simp, fun nm => by simp [noM, bget], fun nm y hy => by simp [bget] at hy⟩ (fun nm y hy => by simp [bget] at hy) (by have := small_nodes hsp; simp; omega)
      have hnames : Hid (∀ W, Keeps (fun b => b = w.heap.size + 1 + 1) W1 W → Calls Try.prog 29 #[tv p.k p.n p.t cp cl cc] W (StrsR (namesF p) W)) := Lib.hid fun W hk => pNames_any p cp cl cc _ W ((hp1.mono (A' := fun b => b ≠ w.heap.size + 1 + 1) (fun b hb => by omega)).keeps hk (fun b hb e => hb e))
      obtain ⟨⟨bs, ok⟩, hq⟩ : ∃ q, fit1 p.k p.n p.t p.c t [] = q := ⟨_, rfl⟩
      have hnl : ok = true → bs.map (·.1) = (nts p.all).map (·.1) := fun hok => by
        have := fit1_names (p := p) (y := t) hpo (by rw [hq]; exact hok)
        rw [hq] at this
        exact this
      have hlen := fit1_len p.k p.n p.t p.c t []
      rw [hq] at hfit hlen
      have HQ := Lib.hid hq
      have HPF : Hid (pmayF p = 0 ∧ mayF t = 0) := ⟨hrp, hrt⟩
      have hbl : bs.length ≤ 1024 := by have := small_nodes hsp; simp at hlen; omega
      have HNL := Lib.hid hnl
      clear hq hlen hrp hrt hnl hp1 ht1
      cases ok with
      | false =>
        have HF : Hid (fitsF p t = none) := by show fitsF p t = _; unfold fitsF; rw [HQ.out]; simp
        have HF2 : Hid (fitsB p t = []) := by show fitsB p t = []; unfold fitsB; rw [HF.out]; rfl
        go_enter Try.func14, Try.ntmps14
        go_upto_region 2 with fail
        rw [← HW.out]
        go_wp2_with fail
        refine (hm1.out _ (Keeps.refl _ _)).mono ?_
        rintro e W ⟨rfl, hk⟩
        obtain ⟨d0', d1', d2', d3', _⟩ := box4 (hk.heap HB2.out)
        clear d0 d1 d2 d3 b0 b1 b2 b3
        have HK := Lib.hid hk
        clear hk
        go_wp2_with fail
        refine (hm2.out _ HK.out).mono ?_
        rintro e W2 ⟨rfl, hk2⟩
        have hk12 := HK.out.trans hk2
        clear d0' d1' d2' d3'
        go_wp2_with fail
        refine (hfit.out _ hk12).mono ?_
        rintro e W3 ⟨rfl, _, hk3⟩
        go_wp2_with fail
        go_ret2
        rw [HF.out, HF2.out]
        exact FitsR.no ((hK.trans hk12).trans' hk3 (fun b hb hl => by omega))
      | true =>
        have HF : Hid (fitsF p t = some bs) := by show fitsF p t = _; unfold fitsF; rw [if_pos ⟨HPF.out.1, HPF.out.2, by rw [HQ.out]⟩, HQ.out]
        have HF2 : Hid (fitsB p t = bs) := by show fitsB p t = bs; unfold fitsB; rw [HF.out]; rfl
        have HNM : Hid (namesF p = bs.map (·.1)) := by show namesF p = _; rw [namesF, if_pos HPF.out.1, HNL.out rfl]
        have HND : Hid ((bs.map (·.1)).Nodup) := by show List.Nodup _; rw [HNL.out rfl]; exact nts_nodup _
        rw [HNM.out] at hnames
        go_enter Try.func14, Try.ntmps14
        go_upto_region 2 with fail
        rw [← HW.out]
        go_wp2_with fail
        refine (hm1.out _ (Keeps.refl _ _)).mono ?_
        rintro e W ⟨rfl, hk⟩
        obtain ⟨d0', d1', d2', d3', _⟩ := box4 (hk.heap HB2.out)
        clear d0 d1 d2 d3 b0 b1 b2 b3
        have HK := Lib.hid hk
        clear hk
        go_wp2_with fail
        refine (hm2.out _ HK.out).mono ?_
        rintro e W2 ⟨rfl, hk2⟩
        have hk12 := HK.out.trans hk2
        clear d0' d1' d2' d3'
        go_wp2_with fail
        refine (hfit.out _ hk12).mono ?_
        rintro e W3 ⟨rfl, hJ, hk3⟩
        obtain ⟨hJ, _⟩ := hJ rfl
        have hk13 : Keeps (fun b => b = w.heap.size + 1 + 1) W1 W3 := (hk12.mono fun _ h _ => h.elim).trans hk3
        have HK13 := Lib.hid hk13
        have hb3 := (hk13.block _ (heap_lt HB1.out) (by omega)).trans HB1.out
        obtain ⟨b0, b1, b2, b3, _⟩ := box4 hb3
        have HJ := Lib.hid hJ
        clear hJ hk12 hk2 hk3 hk13 hb3
        go_wp2_with fail
        refine (hnames.out _ HK13.out).mono ?_
        clear b0 b1 b2 b3
        rintro e W4 ⟨np, nl, nc, rfl, hnr, hng, hk4⟩
        have hnl : nl = bs.length := by
          obtain ⟨pp, cap, h1, _⟩ := ownsRow_slice hnr
          simp only [Value.slice.injEq] at h1
          rw [h1.2.1, List.length_map]
        subst hnl
        have HNR := Lib.hid hnr
        have HJ4 := Lib.hid (HJ.out.next hk4)
        have HK4 := Lib.hid ((hK.trans' HK13.out (fun b hb hl => by omega)).trans hk4)
        clear hnr hk4 hng
        go_wp2_with fail
        go_loopg [7, 29] bs.length (fun m l i W => ∃ j : Nat, j + m = bs.length ∧ i = .int .i64 j ∧ ∃ lp ll lc xs blks, l = .slice lp ll lc ∧ BindsI W4.heap.size W (bs.take j) lp ll lc xs blks ∧ Keeps (fun _ => False) W4 W)
        case atStart => exact ⟨0, by omega, rfl, none, 0, 0, [], [], rfl, BindsI.start _ _, Keeps.refl _ _⟩
        case round =>
          obtain ⟨j, hjm, rfl, lp, ll, lc, xs, blks, rfl, hI, hk⟩ := hrel
          have HM := Lib.hid hjm
          have HKr := Lib.hid hk
          clear hjm
          by_cases hlt : j < bs.length
          · obtain ⟨⟨nm, y⟩, hy⟩ : ∃ e, bs[j]? = some e := ⟨_, List.getElem?_eq_getElem hlt⟩
            have hbg := bget_at HND.out hy
            obtain ⟨M, m, hm3, _, _, hM⟩ := HJ4.out.next hk
            obtain ⟨hys, yb, yo, yp, yl, yc, hMy, _, hyb, hyn⟩ := hM nm y hbg
            obtain ⟨ng, hnp⟩ : ∃ g, np = some ⟨g, 0, none⟩ := by
              obtain ⟨pp, cap, h1, _, _, h2⟩ := ownsRow_slice HNR.out
              simp only [Value.slice.injEq] at h1
              obtain ⟨g, hg⟩ := h2 (by rw [List.length_map]; omega)
              exact ⟨g, by rw [h1.1, hg]⟩
            subst hnp
            have hnr2 := ownsRow_same (w1 := wr) HNR.out (fun b hb => hk.block b (HNR.out.lt b (by simpa using hb)).2 (fun h => h))
            rw [List.length_map] at hnr2
            have n0 : wr.cell? ⟨ng, j, none⟩ = some (.string nm) := (hnr2.cellAt _ (by omega)).trans (by simp [hy])
            have hnm : nm.size ≤ 140737488351232 := by have := (nts_word (l := p.all) (nm := nm) (by rw [← HNL.out (by simp)]; exact List.mem_map.2 ⟨(nm, y), List.mem_of_getElem? hy, rfl⟩)).2; omega
            have hlook := (hm3.look (t := 89) Try.underlying89 (zeroPtr wr) (nm := nm) hnm).2
            rw [hMy] at hlook
            simp only [Option.getD_some] at hlook
            have hcy := Copy_any y yp yl yc _ wr hyn.tv
            unfold copyF at hcy
            rw [if_pos hys] at hcy
            have y0 := hyn.c0
            have y1 := hyn.c1
            have y2 := hyn.c2
            have y3 := hyn.c3
            have hi0 : (0 : Int) ≤ (j : Int) := Int.natCast_nonneg _
            have hi1 : (j : Int) < (bs.length : Int) := by omega
            have HI := Lib.hid hI
            have HY := Lib.hid hy
            have hszy := hyn.size
            have HSZ := Lib.hid hszy
            have hwr : W4.heap.size ≤ wr.heap.size := hk.size
            clear hI hy hbg hM hyn hys hnr2 hk hMy hm3 hszy
            go_wp2_with fail
            refine hcy.mono ?_
            clear hcy
            rintro e W5 ⟨zp, zl, zc, bz, rfl, hoz, hnz, hsz, hk5⟩
            obtain ⟨zb, hzb⟩ : ∃ b, b = W5.heap.size := ⟨_, rfl⟩
            obtain ⟨W6, hW6⟩ : ∃ W6, W6 = W5.alloc (.cells (four y.k y.n y.t zp zl zc) T) := ⟨_, rfl⟩
            have hk6 : Keeps (fun _ => False) W5 W6 := by rw [hW6]; exact (Keeps.refl _ _).alloc _
            have hZ : W6.heap[zb]? = some (.cells (four y.k y.n y.t zp zl zc) T (0, 0)) := by rw [hW6, hzb]; exact heap_alloc_new _ _
            obtain ⟨z0, z1, z2, z3, _⟩ := box4 hZ
            have hI6 := HI.out.keeps (hk5.trans hk6) (fun _ h => h.elim)
            have hLl : (bs.take j).length = j := by rw [List.length_take]; omega
            have hll : ll = (bs.take j).length := HI.out.length
            obtain ⟨L, hL⟩ : ∃ L, bs.take j = L := ⟨_, rfl⟩
            rw [hL] at hI6 hLl hll
            have HOZ := Lib.hid (hoz.keeps hk6 (fun b hb => ⟨hnz.hi b hb, fun h => h⟩))
            have HNZ := Lib.hid (hnz.keeps hk6)
            have HK56 := Lib.hid (hk5.trans hk6)
            have HL := Lib.hid hL
            have HI6 := Lib.hid hI6
            have hrow6 := hI6.row
            have HW6 := Lib.hid hW6
            have HZB := Lib.hid hzb
            have hw6 : W4.heap.size ≤ W6.heap.size := by have := (hk5.trans hk6).size; omega
            have hLb : L.length ≤ 1024 := by omega
            have HLL := Lib.hid hLl
            have HZ := Lib.hid hZ
            have HLL2 := Lib.hid hll
            obtain ⟨i0, hi0', hz0, hz1, hz2⟩ := info_parts Try.bndInfo
            clear hoz hnz hsz hk5 hk6 hZ hI6 hL hLl hll y0 y1 y2 y3 n0 hlook hzb
            rw [hW6] at z0 z1 z2 z3
            clear hW6
            go_upto_region 9 with fail
            rw [← HW6.out, ← HZB.out]
            clear z0 z1 z2 z3
            obtain ⟨z0, z1, z2, z3, _⟩ := box4 HZ.out
            go_wp2_with (at_builtin; refine wpList_append_lies _ rfl _ _ _ rfl W4.heap.size TB i0 _ 5 80 Try.underlying27 hi0' hz0 hz1 hz2 rfl (by decide) (.slice lp ll lc) L.length xs rfl (hrow6.alloc _) ⟨W6.heap.size, 0, none⟩ 1 1 [.string nm, .string y.k, .int .i64 y.n, .string y.t, .slice zp zl zc] rfl rfl (World.news_of_block (cs := #[.string nm, .string y.k, .int .i64 y.n, .string y.t, .slice zp zl zc]) (t := TB) (fr := (0, 0)) (heap_alloc_new W6 _)) (by simp [Value.oneCell']) (by omega) (by simp only [maxLen]; omega) (by omega) (by simp; omega) (W6.heap.size + 1) (by simp) ?_; intro gg cap w7 hown7 hgrow7 hat7 hlt7)
            have hka : Keeps (fun _ => False) W6 (W6.alloc (.cells #[.string nm, .string y.k, .int .i64 y.n, .string y.t, .slice zp zl zc] TB)) := (Keeps.refl _ _).alloc _
            have hI7 := (show BindsI W4.heap.size wr L lp ll lc xs blks by have := HI.out; rwa [HL.out] at this).push (HK56.out.trans hka) hnm HSZ.out (HOZ.out.keeps hka (fun b hb => ⟨HNZ.out.hi b hb, fun h => h⟩)) (HNZ.out.keeps hka) hwr hown7 hgrow7
            have hk7 : Keeps (fun _ => False) W4 w7 := ((HKr.out.trans HK56.out).trans hka).trans' ((Keeps.refl (fun b => (Value.slice lp ll lc).ownBlock = some b) _).grown hgrow7 (fun b hb _ => hb)) (fun b hb hl => by
              have h1 := HI.out.row.lt b hb
              omega)
            have hsnoc : bs.take (j + 1) = L ++ [(nm, y)] := by rw [List.take_add_one, HY.out, HL.out]; rfl
            go_roundg (gk - 1)
            case measure => have := HM.out; omega
            case rel => exact ⟨j + 1, by have := HM.out; omega, by go_num, _, _, _, _, _, rfl, by rw [hsnoc]; exact hI7, hk7⟩
          · have hjl : Hid (bs.take j = bs) := Lib.hid (List.take_of_length_le (by omega))
            have HI := Lib.hid hI
            clear hI hk
            go_wp2_with fail
            go_ret2
            rw [HF.out, HF2.out]
            refine ⟨lp, ll, lc, xs, blks, rfl, ?_, HK4.out.trans HKr.out⟩
            have := HI.out
            rw [hjl.out] at this
            exact this.lower (HK4.out.size)
    · have hne : (rt != 0) = true := by simpa using h2
      subst h1
      have HF : Hid (fitsF p t = none) := by show fitsF p t = _; unfold fitsF; rw [if_neg (fun h => h2 (by rw [← hrt]; exact h.2.1))]
      have HF2 : Hid (fitsB p t = []) := by show fitsB p t = []; unfold fitsB; rw [HF.out]; rfl
      clear hp1 ht1 hrp hrt
      go_enter Try.func14, Try.ntmps14
      go_upto_region 2 with fail
      rw [← HW.out]
      go_wp2_with fail
      refine (hm1.out _ (Keeps.refl _ _)).mono ?_
      rintro e W ⟨rfl, hk⟩
      obtain ⟨d0', d1', d2', d3', _⟩ := box4 (hk.heap HB2.out)
      clear d0 d1 d2 d3 b0 b1 b2 b3
      have HK := Lib.hid hk
      clear hk
      go_wp2_with fail
      refine (hm2.out _ HK.out).mono ?_
      rintro e W2 ⟨rfl, hk2⟩
      clear d0' d1' d2' d3'
      go_wp2_with fail
      go_ret2
      rw [HF.out, HF2.out]
      exact FitsR.no ((hK.trans HK.out).trans hk2)
  · have hne : (rp != 0) = true := by simpa using h1
    have HF : Hid (fitsF p t = none) := by show fitsF p t = _; unfold fitsF; rw [if_neg (fun h => h1 (by rw [← hrp]; exact h.1))]
    have HF2 : Hid (fitsB p t = []) := by show fitsB p t = []; unfold fitsB; rw [HF.out]; rfl
    clear hp1 ht1 hrp hrt
    go_enter Try.func14, Try.ntmps14
    go_upto_region 2 with fail
    rw [← HW.out]
    go_wp2_with fail
    refine (hm1.out _ (Keeps.refl _ _)).mono ?_
    rintro e W ⟨rfl, hk⟩
    clear d0 d1 d2 d3 b0 b1 b2 b3
    go_wp2_with fail
    go_ret2
    rw [HF.out, HF2.out]
    exact FitsR.no (hK.trans hk)
end Go.Proofs.Ytccoihmibkpedaa

/-!
  match.Find: a list of paths built one by one.
-/
namespace Go.Proofs.Ytccoihmibkpedaa

open Go.RowKit

/-- A list of lists grown by one. -/
theorem Lists.push {D te e s : Nat} {W Wq W3 : World} {lp : Option Addr} {ll lc : Nat} {vs : List Value} {cs : List (Nat × List Value)} (h : Lists D te e s W (.slice lp ll lc) vs cs) (hte : te ≠ e) (hD : D ≤ W.heap.size) {v : Value} {c : Nat × List Value} {gg cap B : Nat}
    (hk : Keeps (fun _ => False) W Wq) (hr : Wq.ownsRow B e s v c.1 c.2) (hat : ∀ b, v.ownBlock = some b → W.heap.size ≤ b)
    (hrow : W3.ownsRow D te 1 (.slice (some ⟨gg, 0, none⟩) (vs.length + 1) cap) (vs.length + 1) (vs ++ [v])) (hg : Wq.grownBy W3 (Value.slice lp ll lc).ownBlock) :
    Lists D te e s W3 (.slice (some ⟨gg, 0, none⟩) (vs.length + 1) cap) (vs ++ [v]) (cs ++ [c]) := by
  have hget : ∀ (i : Nat) (u : Value), (vs ++ [v])[i]? = some u → (i < vs.length ∧ vs[i]? = some u) ∨ (i = vs.length ∧ u = v) := fun i u hu => by
    by_cases hi : i < vs.length
    · rw [List.getElem?_append_left hi] at hu
      exact .inl ⟨hi, hu⟩
    · have hi2 := (List.getElem?_eq_some_iff.1 hu).1
      have hi3 : i = vs.length := by simp at hi2; omega
      subst hi3
      rw [List.getElem?_append_right (Nat.le_refl _), Nat.sub_self] at hu
      exact .inr ⟨rfl, by simpa using hu.symm⟩
  have hold : ∀ (i : Nat) (u : Value) (b : Nat), vs[i]? = some u → u.ownBlock = some b → b < W.heap.size ∧ W3.heap[b]? = W.heap[b]? := fun i u b hu hb => by
    have h1 := h.lo (.inr ⟨u, List.mem_of_getElem? hu, hb⟩)
    refine ⟨h1.2, ?_⟩
    rw [hg.block b (Nat.lt_of_lt_of_le h1.2 hk.size) (fun e => h.ne_row hte hu hb e.symm), hk.block b h1.2 (fun h => h)]
  have hnew : ∀ b, v.ownBlock = some b → W3.heap[b]? = Wq.heap[b]? := fun b hb =>
    hg.block b (hr.lt b hb).2 (fun e => by have h1 := (h.row.lt b e.symm).2; have h2 := hat b hb; omega)
  refine ⟨by simpa using hrow, by simp [h.len], fun i u d hu hd => ?_, fun i j u u' b hu hu' hb hb' => ?_⟩
  · rcases hget i u hu with ⟨hi, hu⟩ | ⟨rfl, rfl⟩
    · rw [List.getElem?_append_left (by rw [h.len]; exact hi)] at hd
      exact ownsRow_same (h.rows i u d hu hd) (fun b hm => (hold i u b hu (by simpa using hm)).2)
    · rw [List.getElem?_append_right (by rw [h.len]; exact Nat.le_refl _), h.len, Nat.sub_self] at hd
      simp only [List.getElem?_cons_zero, Option.some.injEq] at hd
      subst hd
      have h1 := ownsRow_same hr (fun b hm => hnew b (by simpa using hm))
      exact ⟨h1.1, h1.2.imp id (fun ⟨g, cap, cur, a, _, z⟩ => ⟨g, cap, cur, a, Nat.le_trans hD (hat g (by rw [a]; rfl)), z⟩)⟩
  · rcases hget i u hu with ⟨hi, h1⟩ | ⟨rfl, rfl⟩
    · rcases hget j u' hu' with ⟨hj, h2⟩ | ⟨rfl, rfl⟩
      · exact h.apart i j u u' b h1 h2 hb hb'
      · have := (hold i u b h1 hb).1; have := hat b hb'; omega
    · rcases hget j u' hu' with ⟨hj, h2⟩ | ⟨rfl, rfl⟩
      · have := (hold j u' b h2 hb').1; have := hat b hb; omega
      · rfl
abbrev TI : TypeId := 50
/-- A list of paths in memory. -/
def PathsI (D : Nat) (W : World) (L : List (List Int)) (lp : Option Addr) (ll lc : Nat) (vs : List Value) : Prop :=
  Lists D TI 3 1 W (.slice lp ll lc) vs (L.map fun p => (p.length, p.map vint))
theorem PathsI.start (D : Nat) (W : World) : PathsI D W [] none 0 0 [] := ⟨World.ownsRow_nil _ _ _ _, rfl, fun i v c h => by simp at h, fun i j v v' b h => by simp at h⟩
theorem PathsI.len {D : Nat} {W : World} {L : List (List Int)} {lp : Option Addr} {ll lc : Nat} {vs : List Value} (h : PathsI D W L lp ll lc vs) : vs.length = L.length := by have := Lists.len h; simpa using this.symm
/-- The paths at which it fits. -/
noncomputable def fndF (p : Nd) (path : List Int) (x : Nd) : List (List Int) := ((pre path x).filter (fun e => (fit1 p.k p.n p.t p.c e.2 []).2)).map (·.1)
noncomputable def fndK (p : Nd) (path : List Int) (i : Nat) (c : Fo) : List (List Int) := ((preK path i c).filter (fun e => (fit1 p.k p.n p.t p.c e.2 []).2)).map (·.1)
noncomputable def fnd1 (p : Nd) (path : List Int) (x : Nd) : List (List Int) := if (fit1 p.k p.n p.t p.c x []).2 then [path] else []
theorem fnd1_len (p : Nd) (path : List Int) (x : Nd) : (fnd1 p path x).length ≤ 1 := by
  unfold fnd1
  split <;> simp
theorem fndF_eq (p : Nd) (path : List Int) (x : Nd) : fndF p path x = fnd1 p path x ++ fndK p path 0 x.c := by
  unfold fndF fnd1 fndK pre
  rw [List.filter_cons]
  split <;> simp
theorem fndK_cons (p : Nd) (path : List Int) (i : Nat) (k n t c r) : fndK p path i (.cons k n t c r) = fndF p (path ++ [(i : Int)]) ⟨k, n, t, c⟩ ++ fndK p path (i + 1) r := by
  unfold fndK fndF
  rw [preK_cons, List.filter_append, List.map_append]
theorem fndF_len (p : Nd) (path : List Int) (x : Nd) : (fndF p path x).length ≤ x.c.nodes + 1 := by
  unfold fndF
  rw [List.length_map]
  exact Nat.le_trans (List.length_filter_le _ _) (by rw [pre_len]; exact Nat.le_refl _)
theorem fndK_len (p : Nd) (path : List Int) (i : Nat) (c : Fo) : (fndK p path i c).length ≤ c.nodes := by
  unfold fndK
  rw [List.length_map]
  exact Nat.le_trans (List.length_filter_le _ _) (by rw [preK_len]; exact Nat.le_refl _)
/-- What the inner function of Find keeps. -/
structure FndJ (A : Nat → Prop) (Pb Lb Ob D : Nat) (p : Nd) (cp : Option Addr) (cl cc : Nat) (L : List (List Int)) (W : World) (lp : Option Addr) (ll lc : Nat) (vs : List Value) : Prop where
  pat : NodeAt W A Pb 0 p.k p.n p.t p.c cp cl cc
  box : W.heap[Lb]? = some (.cells #[.slice lp ll lc] 43 (0, 0))
  fn : W.heap[Ob]? = some (.cells #[.func (.func 67) #[] #[.pointer (some ⟨Pb, 0, none⟩), .pointer (some ⟨Lb, 0, none⟩), .pointer (some ⟨Ob, 0, none⟩)]] 114 (0, 0))
  row : PathsI D W L lp ll lc vs
theorem FndJ.keeps {A S : Nat → Prop} {Pb Lb Ob D : Nat} {p : Nd} {cp : Option Addr} {cl cc : Nat} {L : List (List Int)} {W W' : World} {lp : Option Addr} {ll lc : Nat} {vs : List Value} (h : FndJ A Pb Lb Ob D p cp cl cc L W lp ll lc vs) (hk : Keeps S W W') (hS : ∀ b, S b → W.heap.size ≤ b) (hA : ∀ b, A b → b < W.heap.size) (hP : Pb < W.heap.size) : FndJ A Pb Lb Ob D p cp cl cc L W' lp ll lc vs :=
  ⟨h.pat.keeps hk (fun b hb hs => by have := hS b hs; have := hA b hb; omega) hP (fun hs => by have := hS _ hs; omega),
    (hk.block _ (heap_lt h.box) (fun hs => by have := hS _ hs; have := heap_lt h.box; omega)).trans h.box,
    (hk.block _ (heap_lt h.fn) (fun hs => by have := hS _ hs; have := heap_lt h.fn; omega)).trans h.fn,
    Lists.keeps h.row hk (fun b hs hb => by have := hS _ hs; have := (Lists.lo h.row hb).2; omega)⟩
theorem FndJ.keeps' {A S : Nat → Prop} {Pb Lb Ob D : Nat} {p : Nd} {cp : Option Addr} {cl cc : Nat} {L : List (List Int)} {W W' : World} {lp : Option Addr} {ll lc : Nat} {vs : List Value} (h : FndJ A Pb Lb Ob D p cp cl cc L W lp ll lc vs) (hk : Keeps S W W') (hS : ∀ b, S b → ¬ A b ∧ b ≠ Lb ∧ b ≠ Ob ∧ ¬ Lists.Blk (.slice lp ll lc) vs b) (hP : A Pb ∧ Pb < W.heap.size) : FndJ A Pb Lb Ob D p cp cl cc L W' lp ll lc vs :=
  ⟨h.pat.keeps hk (fun b hb hs => (hS b hs).1 hb) hP.2 (fun hs => (hS _ hs).1 hP.1),
    (hk.block _ (heap_lt h.box) (fun hs => (hS _ hs).2.1 rfl)).trans h.box,
    (hk.block _ (heap_lt h.fn) (fun hs => (hS _ hs).2.2.1 rfl)).trans h.fn,
    Lists.keeps h.row hk (fun b hs hb => (hS b hs).2.2.2 hb)⟩
/-- What the inner function of Find leaves. -/
def FndR (A : Nat → Prop) (Pb Lb Ob D : Nat) (p : Nd) (cp : Option Addr) (cl cc : Nat) (L : List (List Int)) (lp : Option Addr) (ll lc : Nat) (w w' : World) : Prop :=
  ∃ lp' ll' lc' vs', FndJ A Pb Lb Ob D p cp cl cc L w' lp' ll' lc' vs' ∧ Keeps (fun c => c = Lb ∨ (Value.slice lp ll lc).ownBlock = some c) w w' ∧ (∀ g, (Value.slice lp' ll' lc').ownBlock = some g → (Value.slice lp ll lc).ownBlock = some g ∨ w.heap.size ≤ g)
/-! ### 'append(make([]int, 0, len(p)), p...)' -/

theorem run_fill {P : Program} (w : World) (t ty : TypeId) (i : TypeInfo) (z : Value) (ht : P.underlying t = some (.slice 3)) (hi : P.info? 3 = some i) (hz : i.zero = some z) (hs1 : i.size = 1) (hb8 : i.bytes = 8) (hzs : z.cells.size = 1)
    {A : Nat → Prop} {xs : List Int} {pp : Option Addr} {pl : Nat} (pc : Nat) (h : Ints w A xs pp pl) (hl : pl ≤ 17592186044416) {g n B : Nat} (hown : w.ownsRow B 3 1 (.slice (some ⟨g, 0, none⟩) 0 n) 0 []) (hB : B ≤ w.heap.size) :
    ∃ v' w', (Builtin.append_ #[t, t] ty #[.slice (some ⟨g, 0, none⟩) 0 n, .slice pp pl pc]).run P w = .ok v' w' ∧ w'.ownsRow B 3 1 v' xs.length (xs.map vint) ∧ Keeps (fun b => b = g) w w' := by
  have hlen := h.len
  have hgr : ∀ w', w.grownBy w' (Value.slice (some ⟨g, 0, none⟩) 0 n).ownBlock → Keeps (fun b => b = g) w w' := fun w' hg => (Keeps.refl (fun b => b = g) w).grown hg (fun k hk _ => (Option.some.inj hk).symm)
  by_cases h0 : pl = 0
  · subst h0
    have hxs : xs = [] := List.eq_nil_of_length_eq_zero hlen
    subst hxs
    rcases pp with _ | ad
    · refine ⟨.slice (some ⟨g, 0, none⟩) 0 n, w, ?_, hown, Keeps.refl _ _⟩
      simp [Builtin.append_, run_underlying ht, sizeOf, typeInfo, hi, Builtin.lenOf, Builtin.firstCells, storeCells]
    · obtain ⟨v', w', hr, h2, h3, h4, _⟩ := run_append_own_at (P := P) w B t ty 3 i z 1 8 ht hi hz hs1 hb8 hzs (by omega) _ 0 [] hown ad 0 pc [] (by simp) (by simp) (by simp) (by simp [maxLen]) (by omega) hB
      exact ⟨_, w', hr, h2, hgr _ h3⟩
  · obtain ⟨b, o, rfl, _, _, hc⟩ := h.cells (by omega)
    have hnews : ∀ j u, (xs.map vint)[j]? = some u → w.cell? ((⟨b, o, none⟩ : Addr).add j) = some u := by
      intro j u hu
      have hj : j < xs.length := by
        rcases Nat.lt_or_ge j xs.length with hh | hh
        · exact hh
        · rw [List.getElem?_eq_none (by simpa using hh)] at hu; simp at hu
      rw [WideShapes.add_plain]
      have := hc j (by omega)
      rw [this]
      simpa [List.getD_eq_getElem?_getD, List.getElem?_eq_getElem hj] using hu
    obtain ⟨v', w', hr, h2, h3, h4, _⟩ := run_append_own_at (P := P) w B t ty 3 i z 1 8 ht hi hz hs1 hb8 hzs (by omega) _ 0 [] hown ⟨b, o, none⟩ pl pc (xs.map vint) (by simp [hlen]) hnews (by simp [Value.oneCell']) (by unfold maxLen; omega) (by omega) hB
    simp only [Nat.zero_add, List.nil_append] at h2
    refine ⟨v', w', hr, ?_, hgr _ h3⟩
    rw [hlen]
    exact h2
/-- make([]int, 0, len(p)) and the append to it, in one. -/
theorem step_mk {P : Program} {ops : Array Oper} {o : Oper} {a : Act} {w : World} {K : Act → World → Prop} {Q : Exit → Act → World → Prop} {E : Prop} (hgd : o.guard = none) (l c : Operand) (t : TypeId) (ho : o.op = Op.makeSlice t l c)
    (i : TypeInfo) (z : Value) (ht : P.underlying t = some (.slice 3)) (hi : P.info? 3 = some i) (hz : i.zero = some z) (hs1 : i.size = 1) (hb8 : i.bytes = 8) (n : Nat) (hl : a.eval l = .int .i64 0) (hc : a.eval c = .int .i64 (n : Int)) (hn : n ≤ 17592186044416) (B : Nat) (hB : B ≤ w.heap.size)
    (h : ∀ w', w'.ownsRow B 3 1 (.slice (some ⟨w.heap.size, 0, none⟩) 0 n) 0 [] → Keeps (fun _ => False) w w' → K (a.put o.dst (.slice (some ⟨w.heap.size, 0, none⟩) 0 n)) w') :
    if Region.wanted o (yielded ops a.tmps) = true then Oper.wp P o a w K Q else E := by
  have hw : Region.wanted o (yielded ops a.tmps) = true := by simp [Region.wanted, hgd]
  rw [if_pos hw]
  obtain ⟨w', hrun, r1, r2⟩ := run_make_own (P := P) w B t 3 i z 1 ht hi hz hs1 .i64 .i64 n (by rw [hb8]; omega) (by unfold maxLen; omega) hB
  unfold Oper.wp
  simp [execOp, ho, hl, hc, hrun, Result.andThen]
  exact h w' r1 ((Keeps.refl _ w).grown r2 (fun k hk => by cases hk))
theorem step_fill {P : Program} {ops : Array Oper} {o : Oper} {a : Act} {w : World} {K : Act → World → Prop} {Q : Exit → Act → World → Prop} {E : Prop} (hgd : o.guard = none) (s x : Operand) (t : TypeId)
    (ho : o.op = .call { callee := .builtin .append, args := #[s, x], argTypes := #[t, t] }) (i : TypeInfo) (z : Value) (ht : P.underlying t = some (.slice 3)) (hi : P.info? 3 = some i) (hz : i.zero = some z) (hs1 : i.size = 1) (hb8 : i.bytes = 8) (hzs : z.cells.size = 1)
    {g n B : Nat} (hs : a.eval s = .slice (some ⟨g, 0, none⟩) 0 n) {A : Nat → Prop} {xs : List Int} {pp : Option Addr} {pl : Nat} (pc : Nat) (hx : a.eval x = .slice pp pl pc) (hr : Ints w A xs pp pl) (hl : pl ≤ 17592186044416) (hown : w.ownsRow B 3 1 (.slice (some ⟨g, 0, none⟩) 0 n) 0 []) (hB : B ≤ w.heap.size)
    (h : ∀ v' w', w'.ownsRow B 3 1 v' xs.length (xs.map vint) → Keeps (fun b => b = g) w w' → K (a.put o.dst v') w') :
    if Region.wanted o (yielded ops a.tmps) = true then Oper.wp P o a w K Q else E := by
  have hw : Region.wanted o (yielded ops a.tmps) = true := by simp [Region.wanted, hgd]
  rw [if_pos hw]
  obtain ⟨v', w', hrun, h1, h2⟩ := run_fill (P := P) w t o.type i z ht hi hz hs1 hb8 hzs pc hr hl hown hB
  unfold Oper.wp execOp
  simp only [ho, resolve, invoke, builtin, Sem.run_bind, Sem.run_pure, Result.andThen_ok, List.map_toArray, List.map_cons, List.map_nil, hs, hx, hrun]
  exact h v' w' h1 h2
/-- 'append(p[:len(p):len(p)], j)': always anew. -/
theorem step_capped {P : Program} {ops : Array Oper} {o : Oper} {a : Act} {w : World} {K : Act → World → Prop} {Q : Exit → Act → World → Prop} {E : Prop} (hgd : o.guard = none) (s x : Operand) (t : TypeId)
    (ho : o.op = .call { callee := .builtin .append, args := #[s, x], argTypes := #[t, t] }) (i : TypeInfo) (z : Value) (ht : P.underlying t = some (.slice 3)) (hi : P.info? 3 = some i) (hz : i.zero = some z) (hs1 : i.size = 1) (hb8 : i.bytes = 8) (hzs : z.cells.size = 1)
    (xs : List Int) (hl : xs.length ≤ 100000) (pp : Option Addr) (pc : Nat) (hs : a.eval s = .slice pp xs.length xs.length) (hr : Row w (.slice pp xs.length pc) xs) (j : Int) (B : Nat) (hx : a.eval x = .slice (some ⟨B, 0, none⟩) 1 1) (hB : w.heap[B]? = some (.cells #[vint j] 3 (0, 0)))
    (h : ∀ g cap w', Row w' (.slice (some ⟨g, 0, none⟩) (xs.length + 1) cap) (xs ++ [j]) → g < w'.heap.size → w.heap.size ≤ g → Keeps (fun _ => False) w w' → K (a.put o.dst (.slice (some ⟨g, 0, none⟩) (xs.length + 1) cap)) w') :
    if Region.wanted o (yielded ops a.tmps) = true then Oper.wp P o a w K Q else E := by
  have hw : Region.wanted o (yielded ops a.tmps) = true := by simp [Region.wanted, hgd]
  rw [if_pos hw]
  have hnews : ∀ (k : Nat) (u : Value), [vint j][k]? = some u → w.cell? ((⟨B, 0, none⟩ : Addr).add k) = some u := by
    intro k u hu
    cases k with
    | zero => rw [add0]; simp at hu; rw [← hu]; simp [World.cell?, hB]
    | succ k => simp at hu
  have e1 : (xs ++ [j]).map vint = xs.map vint ++ [vint j] := by simp
  have fin : ∀ v' w', (Builtin.append_ #[t, t] o.type #[.slice pp xs.length xs.length, .slice (some ⟨B, 0, none⟩) 1 1]).run P w = .ok v' w' → K (a.put o.dst v') w' → o.wp P a w K Q := by
    intro v' w' hrun hk
    unfold Oper.wp execOp
    simp only [ho, resolve, invoke, builtin, Sem.run_bind, Sem.run_pure, Result.andThen_ok, List.map_toArray, List.map_cons, List.map_nil, hs, hx, hrun]
    exact hk
  have grow : ∀ v' w', w'.ownsRow w.heap.size 3 1 v' (xs.length + 1) (xs.map vint ++ [vint j]) → w.grownBy w' none → K (a.put o.dst v') w' := by
    intro v' w' h1 h2
    obtain ⟨g, cap, rfl, hg, hlt⟩ := h1.form (by omega)
    refine h g cap w' ⟨?_, fun hn => by simp at hn⟩ hlt hg ((Keeps.refl _ w).grown h2 (fun k hk => by cases hk))
    rw [e1, List.length_append]
    exact ⟨h1.1, h1.2.imp id (fun ⟨g, cap, cur, a, b, c⟩ => ⟨g, cap, cur, a, Nat.zero_le _, c⟩)⟩
  rcases hr.form with ⟨he, rfl⟩ | ⟨g, cap, cur, he, hpos, hh, h1, h2, h3, h4⟩
  · simp only [Value.slice.injEq] at he
    obtain ⟨rfl, _, _⟩ := he
    obtain ⟨v', w', hrun, r1, r2, _⟩ := run_append_own (P := P) w w.heap.size t o.type 3 i z 1 8 ht hi hz hs1 hb8 hzs (by omega) (.slice none 0 0) 0 [] (World.ownsRow_nil w _ _ 1) ⟨B, 0, none⟩ 1 1 [vint j] rfl hnews (by simp [Value.oneCell']) (by simp [maxLen]) (by omega) (Nat.le_refl _)
    exact fin _ _ hrun (grow v' w' (by simpa using r1) r2)
  · simp only [Value.slice.injEq] at he
    obtain ⟨rfl, _, rfl⟩ := he
    obtain ⟨v', w', hrun, r1, r2⟩ := run_append_arg_grows (P := P) w t o.type 3 i z 1 8 ht hi hz hs1 hb8 hzs (by omega) ⟨g, 0, none⟩ xs.length xs.length (xs.map vint) (by simp) hr.cellsOf ⟨B, 0, none⟩ 1 1 [vint j] rfl hnews (by omega) (by simp only [maxLen]; omega) (by omega)
    exact fin _ _ hrun (grow v' w' r1 r2)
end Go.Proofs.Ytccoihmibkpedaa

/-!
  espalierlaw24.begun: its data.
-/
namespace Go.Proofs.Ytccoihmibkpedaa

open Go.RowKit

abbrev kAdd : ByteArray := ⟨#[110, 117, 109, 46, 97, 100, 100]⟩
abbrev kX : ByteArray := ⟨#[97, 110, 121, 46, 120]⟩
abbrev kY : ByteArray := ⟨#[97, 110, 121, 46, 121]⟩
abbrev kYes : ByteArray := ⟨#[98, 97, 115, 101, 46, 121, 101, 115]⟩
abbrev kNo : ByteArray := ⟨#[98, 97, 115, 101, 46, 110, 111]⟩
abbrev nX : ByteArray := ⟨#[120]⟩
abbrev nY : ByteArray := ⟨#[121]⟩
abbrev foTwo (a b : ByteArray) : Fo := .cons a 0 e0 .nil (.cons b 0 e0 .nil .nil)
abbrev ndP : Nd := ⟨kAdd, 0, e0, foTwo kX kY⟩
abbrev ndT : Nd := ⟨kAdd, 0, e0, foTwo kYes kNo⟩
abbrev ndQ : Nd := ⟨kAdd, 0, e0, foTwo kX kX⟩
abbrev ndU : Nd := ⟨kX, 0, e0, .cons kNo 0 e0 .nil .nil⟩

theorem varAdd : varF kAdd = none := by decide
theorem varX : varF kX = some nX := by decide
theorem varY : varF kY = some nY := by decide
theorem varYes : varF kYes = none := by decide
theorem varNo : varF kNo = none := by decide
theorem smallP : ndP.small ∧ ndT.small ∧ ndQ.small ∧ ndU.small := by decide
theorem mayP : mayF ndP = 0 := by rw [mayF, if_pos smallP.1]; decide
theorem mayT : mayF ndT = 0 := by rw [mayF, if_pos smallP.2.1]; decide
theorem mayQ : mayF ndQ = 0 := by rw [mayF, if_pos smallP.2.2.1]; decide
theorem mayU : mayF ndU = 0 := by rw [mayF, if_pos smallP.2.2.2]; decide
theorem mayX : mayF (lf kX) = 0 := by rw [mayF, if_pos (smallLf _)]; decide
theorem pmayP : pmayF ndP = 0 := by rw [pmayF, if_pos mayP]; decide
theorem pmayQ : pmayF ndQ = 0 := by rw [pmayF, if_pos mayQ]; decide
theorem pmayU : pmayF ndU = 41 := by rw [pmayF, if_pos mayU]; decide
theorem pmayX : pmayF (lf kX) = 0 := by rw [pmayF, if_pos mayX]; decide
theorem bget_nX {y : Nd} : bget [(nX, y)] nY = none := by simp [bget]
theorem fitsP : fitsF ndP ndT = some [(nX, lf kYes), (nY, lf kNo)] := by
  rw [fitsF, if_pos]
  · simp only [fit1, varAdd, fitFo, varX, varY, bindF, likeF, bget]
    simp [Fo.len]
  · refine ⟨pmayP, mayT, ?_⟩
    simp only [fit1, varAdd, fitFo, varX, varY, bindF, likeF, bget]
    simp [Fo.len]
theorem fitsQ : fitsF ndQ ndT = none := by
  rw [fitsF, if_neg]
  rintro ⟨_, _, h⟩
  simp only [fit1, varAdd, fitFo, varX, varY, bindF, likeF, bget] at h
  simp [Fo.len, eqN] at h
theorem fillP : fillF ndP [(nX, lf kYes), (nY, lf kNo)] = (ndT, 0) := (fits_fill fitsP).1
theorem fillP0 : fillF ndP [] = (zeroNd, 3) := by
  rw [fillF, if_pos pmayP, if_pos (by rfl), if_neg (by decide)]
  congr 1
theorem namesP : namesF ndP = [nX, nY] := by rw [namesF, if_pos pmayP]; decide
theorem findX : (findF (lf kX) ndT).length = 3 := by
  rw [findF, if_pos ⟨pmayX, mayT⟩]
  simp [fit1, varX, bindF, likeF, bget, pre, preK]
theorem szP : szok kAdd e0 ∧ szok kX e0 ∧ szok kY e0 ∧ szok kYes e0 ∧ szok kNo e0 := by
  refine ⟨?_, ?_, ?_, ?_, ?_⟩ <;> exact ⟨by decide, by decide⟩
abbrev twoCells (a b : ByteArray) : Array Value := #[.string a, .int .i64 0, .string e0, .slice none 0 0, .string b, .int .i64 0, .string e0, .slice none 0 0]
theorem tvTwo {W : World} {B : Nat} {k a b : ByteArray} (sk : szok k e0) (sa : szok a e0) (sb : szok b e0) (h : W.heap[B]? = some (.cells (twoCells a b) T (0, 0))) : Tv W (fun b => b < W.heap.size) k e0 (foTwo a b) (some ⟨B, 0, none⟩) 2 2 := by
  have l := heap_lt h
  refine ⟨sk, by omega, by omega, ?_⟩
  refine ⟨B, 0, 1, none, 0, 0, rfl, rfl, by omega, l, l, sa, by omega, by omega, by simp [World.cell?, h], by simp [World.cell?, h], by simp [World.cell?, h], by simp [World.cell?, h], rfl, ?_⟩
  exact ⟨B, 4, 0, none, 0, 0, rfl, rfl, by omega, l, l, sb, by omega, by omega, by simp [World.cell?, h], by simp [World.cell?, h], by simp [World.cell?, h], by simp [World.cell?, h], rfl, rfl⟩
theorem tvOne {W : World} {B : Nat} {k a : ByteArray} (sk : szok k e0) (sa : szok a e0) (h : W.heap[B]? = some (.cells (four a 0 e0 none 0 0) T (0, 0))) : Tv W (fun b => b < W.heap.size) k e0 (.cons a 0 e0 .nil .nil) (some ⟨B, 0, none⟩) 1 1 := by
  have l := heap_lt h
  refine ⟨sk, by omega, by omega, ?_⟩
  exact ⟨B, 0, 0, none, 0, 0, rfl, rfl, by omega, l, l, sa, by omega, by omega, by simp [World.cell?, h], by simp [World.cell?, h], by simp [World.cell?, h], by simp [World.cell?, h], rfl, rfl⟩
theorem Tv.boxedAt {W : World} {A : Nat → Prop} {k n t c cp cl cc} {B : Nat} (h : Tv W A k t c cp cl cc) (hb : W.heap[B]? = some (.cells (four k n t cp cl cc) T (0, 0))) : NodeAt W A B 0 k n t c cp cl cc := by
  exact ⟨h.size, h.lc, h.cm, by simp [World.cell?, hb], by simp [World.cell?, hb], by simp [World.cell?, hb], by simp [World.cell?, hb], h.kids⟩
end Go.Proofs.Ytccoihmibkpedaa

/-!
  match.Fill's inner function: its walk.
-/
namespace Go.Proofs.Ytccoihmibkpedaa

open Go.RowKit

/-- What the inner function of Fill keeps. -/
structure FillJ (A : Nat → Prop) (bs : List Bind) (Kb Mb Lk Wg : Nat) (M : ByteArray → Option Value) (n : Nat) (lb wb : Bool) (W : World) : Prop where
  box : W.heap[Kb]? = some (.cells #[.map (some Mb)] 89 (0, 0))
  lack : W.heap[Lk]? = some (.cells #[.bool lb] 4 (0, 0))
  wrong : W.heap[Wg]? = some (.cells #[.bool wb] 4 (0, 0))
  map : MapAt W Mb M n
  some_ : ∀ nm, (M nm).isSome = (bget bs nm).isSome
  node : ∀ nm y, bget bs nm = some y → ∃ b o cp cl cc, M nm = some (.pointer (some ⟨b, o, none⟩)) ∧ A b ∧ b < W.heap.size ∧ NodeAt W A b o y.k y.n y.t y.c cp cl cc
section

variable {A : Nat → Prop} {bs : List Bind} {Kb Mb Lk Wg : Nat} {M : ByteArray → Option Value} {n : Nat} {lb wb : Bool} {W W' : World}

theorem FillJ.next (h : FillJ A bs Kb Mb Lk Wg M n lb wb W) (hk : Keeps (fun _ => False) W W') : FillJ A bs Kb Mb Lk Wg M n lb wb W' :=
  ⟨hk.heap h.box, hk.heap h.lack, hk.heap h.wrong, h.map.keeps hk (fun h => h), h.some_, fun nm y hy => by
    obtain ⟨b, o, cp, cl, cc, h1, h2, h3, h4⟩ := h.node nm y hy
    exact ⟨b, o, cp, cl, cc, h1, h2, Nat.lt_of_lt_of_le h3 hk.size, h4.next hk h3⟩⟩
theorem FillJ.set1 (h : FillJ A bs Kb Mb Lk Wg M n lb wb W) (hA : ∀ b, A b → b ≠ Lk ∧ b ≠ Wg) (hd : Kb ≠ Lk ∧ Kb ≠ Wg ∧ Mb ≠ Lk ∧ Mb ≠ Wg ∧ Lk ≠ Wg) (a : Bool) : FillJ A bs Kb Mb Lk Wg M n a wb (W.setCell ⟨Lk, 0, none⟩ (.bool a)) ∧ Keeps (fun b => b = Lk ∨ b = Wg) W (W.setCell ⟨Lk, 0, none⟩ (.bool a)) := by
  obtain ⟨d1, d2, d3, d4, d5⟩ := hd
  have hk : Keeps (fun b => b = Lk ∨ b = Wg) W (W.setCell ⟨Lk, 0, none⟩ (.bool a)) := (Keeps.refl (fun b => b = Lk ∨ b = Wg) W).setCell (p := ⟨Lk, 0, none⟩) (fun _ => .inl rfl) _
  refine ⟨⟨(hk.block _ (heap_lt h.box) (fun e => e.elim d1 d2)).trans h.box, ?_, ?_, h.map.keeps hk (fun e => e.elim d3 d4), h.some_, fun nm y hy => ?_⟩, hk⟩
  · rw [heap_set h.lack]; rfl
  · exact (Below.heap_setCell _ _ _ _ (fun e => d5 e.symm)).trans h.wrong
  · obtain ⟨b', o, cp, cl, cc, h1, h2, h3, h4⟩ := h.node nm y hy
    exact ⟨b', o, cp, cl, cc, h1, h2, Nat.lt_of_lt_of_le h3 hk.size, h4.keeps hk (fun x hx e => e.elim (hA x hx).1 (hA x hx).2) h3 (fun e => e.elim (hA b' h2).1 (hA b' h2).2)⟩
theorem FillJ.set2 (h : FillJ A bs Kb Mb Lk Wg M n lb wb W) (hA : ∀ b, A b → b ≠ Lk ∧ b ≠ Wg) (hd : Kb ≠ Lk ∧ Kb ≠ Wg ∧ Mb ≠ Lk ∧ Mb ≠ Wg ∧ Lk ≠ Wg) (a : Bool) : FillJ A bs Kb Mb Lk Wg M n lb a (W.setCell ⟨Wg, 0, none⟩ (.bool a)) ∧ Keeps (fun b => b = Lk ∨ b = Wg) W (W.setCell ⟨Wg, 0, none⟩ (.bool a)) := by
  obtain ⟨d1, d2, d3, d4, d5⟩ := hd
  have hk : Keeps (fun b => b = Lk ∨ b = Wg) W (W.setCell ⟨Wg, 0, none⟩ (.bool a)) := (Keeps.refl (fun b => b = Lk ∨ b = Wg) W).setCell (p := ⟨Wg, 0, none⟩) (fun _ => .inr rfl) _
  refine ⟨⟨(hk.block _ (heap_lt h.box) (fun e => e.elim d1 d2)).trans h.box, ?_, ?_, h.map.keeps hk (fun e => e.elim d3 d4), h.some_, fun nm y hy => ?_⟩, hk⟩
  · exact (Below.heap_setCell _ _ _ _ d5).trans h.lack
  · rw [heap_set h.wrong]; rfl
  · obtain ⟨b', o, cp, cl, cc, h1, h2, h3, h4⟩ := h.node nm y hy
    exact ⟨b', o, cp, cl, cc, h1, h2, Nat.lt_of_lt_of_le h3 hk.size, h4.keeps hk (fun x hx e => e.elim (hA x hx).1 (hA x hx).2) h3 (fun e => e.elim (hA b' h2).1 (hA b' h2).2)⟩
theorem lackB_snoc (bs : List Bind) (l : List Nd) (x : Nd) : lackB bs (l ++ [x]) = (lackB bs l || lack1 bs x) := by simp [lackB, List.any_append]
theorem wrongB_snoc (bs : List Bind) (l : List Nd) (x : Nd) : wrongB bs (l ++ [x]) = (wrongB bs l || wrong1 bs x) := by simp [wrongB, List.any_append]
end

set_option maxRecDepth 100000 in
set_option maxHeartbeats 3200000 in
theorem filla_any (P : List Nd) (hP : PatOK P) (A A' : Nat → Prop) (bs : List Bind) (Kb Mb Lk Wg : Nat) (M : ByteArray → Option Value) (m : Nat) (hA : ∀ b, A b → b ≠ Lk ∧ b ≠ Wg) (hA' : ∀ b, A' b → b ≠ Lk ∧ b ≠ Wg) (hd : Kb ≠ Lk ∧ Kb ≠ Wg ∧ Mb ≠ Lk ∧ Mb ≠ Wg ∧ Lk ≠ Wg) (l : List Nd) (W : World) (b o : Nat) (k : ByteArray) (n : Int) (t : ByteArray) (c : Fo) (cp : Option Addr) (cl cc : Nat)
    (hI : (⟨k, n, t, c⟩ : Nd) ∈ P) (hJ : FillJ A' bs Kb Mb Lk Wg M m (lackB bs l) (wrongB bs l) W) (hb : A b) (hbs : b < W.heap.size) (hn : NodeAt W A b o k n t c cp cl cc) :
    Calls Try.prog 58 #[.pointer (some ⟨b, o, none⟩), .pointer (some ⟨Kb, 0, none⟩), .pointer (some ⟨Lk, 0, none⟩), .pointer (some ⟨Wg, 0, none⟩)] W fun e W' => e = .returned (.bool true) ∧ FillJ A' bs Kb Mb Lk Wg M m (lackB bs (l ++ [⟨k, n, t, c⟩])) (wrongB bs (l ++ [⟨k, n, t, c⟩])) W' ∧ Keeps (fun b => b = Lk ∨ b = Wg) W W' := by
  have hvar := variable_any A k n t c b o cp cl cc W hn
  unfold VarR at hvar
  have HJ := Lib.hid hJ
  have HN := Lib.hid hn
  have hks := hn.size.2
  cases hv : varF k with
  | none =>
    rw [hv] at hvar
    have e1 : Hid (lackB bs (l ++ [⟨k, n, t, c⟩]) = lackB bs l) := by show lackB _ _ = _; simp [lackB, List.any_append, lack1, hv]
    have e2 : Hid (wrongB bs (l ++ [⟨k, n, t, c⟩]) = wrongB bs l) := by show wrongB _ _ = _; simp [wrongB, List.any_append, wrong1, hv]
    clear hv hn hJ
    go_enter Try.func58, Try.ntmps58
    go_wp2_with fail
    refine hvar.mono ?_
    clear hvar
    rintro e W1 ⟨a, rfl, _, hk⟩
    go_wp2_with fail
    go_ret
    exact ⟨rfl, by rw [e1.out, e2.out]; exact HJ.out.next hk, hk.mono fun _ h _ => h.elim⟩
  | some nm =>
    rw [hv] at hvar
    have hnm := varF_size hv hks
    have hnum := hP.num _ hI (by simp [hv])
    have hv' := Lib.hid hv
    clear hv hn hJ
    obtain ⟨L0, hL0⟩ : ∃ v, lackB bs l = v := ⟨_, rfl⟩
    obtain ⟨G0, hG0⟩ : ∃ v, wrongB bs l = v := ⟨_, rfl⟩
    have HL0 := Lib.hid hL0
    have HG0 := Lib.hid hG0
    have hl0 := HJ.out.lack
    have hg0 := HJ.out.wrong
    rw [hL0] at hl0
    rw [hG0] at hg0
    have HLc := Lib.hid hl0
    have HGc := Lib.hid hg0
    clear hL0 hG0 hl0 hg0
    have hne : Lk ≠ Wg := hd.2.2.2.2
    go_enter Try.func58, Try.ntmps58
    go_wp2_with fail
    refine hvar.mono ?_
    clear hvar
    rintro e W1 ⟨a, rfl, ha, hk⟩
    obtain rfl := ha nm rfl
    clear ha
    have HK := Lib.hid hk
    have hJ1 := HJ.out.next hk
    have k0 : W1.cell? ⟨Kb, 0, none⟩ = some (.map (some Mb)) := by simp [World.cell?, hJ1.box]
    have hlook := (hJ1.map.look (t := 89) Try.underlying89 (zeroPtr W1) (nm := a) hnm).1
    have l0 : W1.cell? ⟨Lk, 0, none⟩ = some (.bool L0) := by simp [World.cell?, hk.heap HLc.out]
    have l1 : W1.frozen? ⟨Lk, 0, none⟩ = false := by simp [World.frozen?, hk.heap HLc.out]
    have g0 : W1.cell? ⟨Wg, 0, none⟩ = some (.bool G0) := by simp [World.cell?, hk.heap HGc.out]
    have g1 : W1.frozen? ⟨Wg, 0, none⟩ = false := by simp [World.frozen?, hk.heap HGc.out]
    have HJ1 := Lib.hid hJ1
    clear hk
    cases hg : bget bs a with
    | none =>
      have hMn : M a = none := by
        have := hJ1.some_ a
        rw [hg] at this
        cases hMa : M a with
        | none => rfl
        | some v => rw [hMa] at this; simp at this
      rw [hMn] at hlook
      simp only [Option.getD_none, Option.isSome_none] at hlook
      have x1 : Hid (lack1 bs ⟨k, n, t, c⟩ = true) := by show lack1 _ _ = true; unfold lack1; simp [hv'.out, hg]
      have x2 : Hid (wrong1 bs ⟨k, n, t, c⟩ = false) := by show wrong1 _ _ = false; unfold wrong1; simp [hv'.out, hg]
      clear hg hMn hJ1
      cases L0 <;> cases G0
      all_goals
        go_wp2_with fail
        go_ret
        obtain ⟨h1, h2⟩ := HJ1.out.set1 hA' hd true
        obtain ⟨h3, h4⟩ := h1.set2 hA' hd (wrongB bs l)
        rw [lackB_snoc, wrongB_snoc, x1.out, x2.out, Bool.or_true, Bool.or_false]
        rw [HG0.out] at h3 h4 ⊢
        exact ⟨rfl, h3, ((HK.out.mono (S' := fun b => b = Lk ∨ b = Wg) fun _ h _ => h.elim).trans h2).trans h4⟩
    | some y =>
      obtain ⟨yb, yo, yp, yl, yc, hMy, hyA, hyb, hyt⟩ := hJ1.node a y hg
      rw [hMy] at hlook
      simp only [Option.getD_some, Option.isSome_some] at hlook
      have x1 : Hid (lack1 bs ⟨k, n, t, c⟩ = false) := by show lack1 _ _ = _; unfold lack1; simp [hv'.out, hg]
      have x2 : Hid (wrong1 bs ⟨k, n, t, c⟩ = !likeF n t y) := by show wrong1 _ _ = _; unfold wrong1; simp [hv'.out, hg]
      have hset : ∀ v, Keeps (fun b => b = Lk) W1 (W1.setCell ⟨Lk, 0, none⟩ v) := fun v => (Keeps.refl (fun b => b = Lk) W1).setCell (p := ⟨Lk, 0, none⟩) (fun _ => rfl) _
      have hbW : b < W1.heap.size := Nat.lt_of_lt_of_le hbs HK.out.size
      have hal : Hid (∀ v, Calls Try.prog 60 #[.pointer (some ⟨b, o, none⟩), .pointer (some ⟨yb, yo, none⟩)] (W1.setCell ⟨Lk, 0, none⟩ v) fun e w' => e = .returned (.bool (likeF n t y)) ∧ Keeps (fun _ => False) (W1.setCell ⟨Lk, 0, none⟩ v) w') := Lib.hid fun v =>
        allows_any A A' k y.k n y.n t y.t c y.c b o yb yo cp yp cl cc yl yc _ ((HN.out.next HK.out hbs).keeps (hset v) (fun x hx e => (hA x hx).1 e) hbW (hA b hb).1) (hyt.keeps (hset v) (fun x hx e => (hA' x hx).1 e) hyb (hA' yb hyA).1) hnum
      have hWg : Hid (∀ v W5, Keeps (fun _ => False) (W1.setCell ⟨Lk, 0, none⟩ v) W5 → W5.frozen? ⟨Wg, 0, none⟩ = false ∧ ∃ u, W5.cell? ⟨Wg, 0, none⟩ = some u) := Lib.hid fun v W5 hk5 => by
        have h1 : (W1.setCell ⟨Lk, 0, none⟩ v).heap[Wg]? = some (.cells #[.bool G0] 4 (0, 0)) := (Below.heap_setCell _ _ _ _ (fun e => hne e.symm)).trans (HK.out.heap HGc.out)
        have h2 := hk5.heap h1
        exact ⟨by simp [World.frozen?, h2], _, by simp [World.cell?, h2]; rfl⟩
      clear hg hMy hJ1 hyt hset
      obtain ⟨lk, hlk⟩ : ∃ v, likeF n t y = v := ⟨_, rfl⟩
      rw [hlk] at hal x2
      clear hlk
      cases G0 with
      | true =>
        cases L0
        all_goals
          go_wp2_with fail
          go_ret
          obtain ⟨h1, h2⟩ := HJ1.out.set1 hA' hd (lackB bs l)
          obtain ⟨h3, h4⟩ := h1.set2 hA' hd true
          rw [lackB_snoc, wrongB_snoc, x1.out, HG0.out, Bool.true_or, Bool.or_false]
          rw [HL0.out] at h2 h3 h4 ⊢
          exact ⟨rfl, h3, ((HK.out.mono (S' := fun b => b = Lk ∨ b = Wg) fun _ h _ => h.elim).trans h2).trans h4⟩
      | false =>
        cases L0
        all_goals
          go_wp2_with fail
          refine (hal.out _).mono ?_
          rintro e W5 ⟨rfl, hk5⟩
          obtain ⟨g1', u, g0'⟩ := hWg.out _ W5 hk5
          cases lk
          all_goals
            go_wp2_with fail
            go_ret
            obtain ⟨h1, h2⟩ := HJ1.out.set1 hA' hd (lackB bs l)
            rw [HL0.out] at h1 h2
            obtain ⟨h3, h4⟩ := (h1.next hk5).set2 hA' hd (wrong1 bs ⟨k, n, t, c⟩)
            rw [lackB_snoc, wrongB_snoc, x1.out, HG0.out, HL0.out, Bool.or_false, Bool.false_or]
            rw [x2.out] at h3 h4 ⊢
            exact ⟨rfl, h3, ((HK.out.mono (S' := fun b => b = Lk ∨ b = Wg) fun _ h _ => h.elim).trans h2).trans' (hk5.mono (S' := fun b => b = Lk ∨ b = Wg) fun _ h _ => h.elim) (fun _ h _ => h) |>.trans h4⟩
end Go.Proofs.Ytccoihmibkpedaa

/-!
  espalierlaw24.light: its walk.
-/
namespace Go.Proofs.Ytccoihmibkpedaa

open Go.RowKit

abbrev mopc (kd : Int) (p t : Nd) (cp tp : Option Addr) (cl cc tl tc : Nat) (bp : Option Addr) (bl bc : Nat) : Array Value := #[.int .i64 kd, .string p.k, .int .i64 p.n, .string p.t, .slice cp cl cc, .string t.k, .int .i64 t.n, .string t.t, .slice tp tl tc, .slice bp bl bc]
theorem mbox {W : World} {b : Nat} {kd : Int} {p t : Nd} {cp tp : Option Addr} {cl cc tl tc : Nat} {bp : Option Addr} {bl bc : Nat} {O : TypeId} (h : W.heap[b]? = some (.cells (mopc kd p t cp tp cl cc tl tc bp bl bc) O (0, 0))) :
    (W.cell? ⟨b, 0, none⟩ = some (.int .i64 kd) ∧ W.cell? ⟨b, 9, none⟩ = some (.slice bp bl bc)) ∧ (W.cell? ⟨b, 1, none⟩ = some (.string p.k) ∧ W.cell? ⟨b, 2, none⟩ = some (.int .i64 p.n) ∧ W.cell? ⟨b, 3, none⟩ = some (.string p.t) ∧ W.cell? ⟨b, 4, none⟩ = some (.slice cp cl cc)) ∧
      (W.cell? ⟨b, 5, none⟩ = some (.string t.k) ∧ W.cell? ⟨b, 6, none⟩ = some (.int .i64 t.n) ∧ W.cell? ⟨b, 7, none⟩ = some (.string t.t) ∧ W.cell? ⟨b, 8, none⟩ = some (.slice tp tl tc)) := by
  simp [World.cell?, h]
/-- What light tells. -/
def mlightF (p t : Nd) (bs : List Bind) : Bool := decide (0 ≤ lightN p) && decide (0 ≤ lightN t) && decide (bs.length < 50) && bs.all (fun e => decide (0 ≤ lightN e.2))
set_option maxRecDepth 100000 in
set_option maxHeartbeats 3200000 in
theorem mlight_any (kd : Int) (p t : Nd) (bs : List Bind) (cp tp bp : Option Addr) (cl cc tl tc bl bc : Nat) (A A' A2 : Nat → Prop) (w : World) (h : Tv w A p.k p.t p.c cp cl cc) (h' : Tv w A' t.k t.t t.c tp tl tc) (hB : BindsAt w A2 bs bp bl) (hbc : bl ≤ bc) (hbc2 : bc ≤ 9223372036854775807) :
    Calls Try.prog 10 #[.agg (mopc kd p t cp tp cl cc tl tc bp bl bc)] w fun e w' => e = .returned (.bool (mlightF p t bs)) ∧ Keeps (fun _ => False) w w' := by
  obtain ⟨W1, hW1⟩ : ∃ W1, W1 = w.alloc (.cells (mopc kd p t cp tp cl cc tl tc bp bl bc) 29) := ⟨_, rfl⟩
  have hK : Keeps (fun _ => False) w W1 := by rw [hW1]; exact (Keeps.refl _ w).alloc _
  have hb1 : W1.heap[w.heap.size]? = some (.cells (mopc kd p t cp tp cl cc tl tc bp bl bc) 29 (0, 0)) := by rw [hW1]; exact heap_alloc_new _ _
  have hl1 := Light_any p cp cl cc _ W1 (h.next hK)
  have hl2 : Hid (∀ W, Keeps (fun _ => False) W1 W → Calls Try.prog 47 #[tv t.k t.n t.t tp tl tc] W fun e w' => e = .returned (.bool (decide (0 ≤ lightN t))) ∧ Keeps (fun _ => False) W w') := Lib.hid fun W hk => Light_any t tp tl tc _ W ((h'.next hK).next hk)
  have hlen : bs.length = bl := hB.len
  have HBA := Lib.hid (hB.next hK)
  obtain ⟨lp, hlp⟩ : ∃ v, decide (0 ≤ lightN p) = v := ⟨_, rfl⟩
  obtain ⟨lt, hlt⟩ : ∃ v, decide (0 ≤ lightN t) = v := ⟨_, rfl⟩
  obtain ⟨lb, hlb⟩ : ∃ v, decide ((bl : Int) < 50) = v := ⟨_, rfl⟩
  rw [hlp] at hl1
  rw [hlt] at hl2
  have HF : Hid (mlightF p t bs = (lp && lt && lb && bs.all (fun e => decide (0 ≤ lightN e.2)))) := by
    show mlightF p t bs = _
    unfold mlightF
    rw [hlp, hlt, hlen, ← hlb]
    congr 2
    simp
    omega
  obtain ⟨⟨o0, o9⟩, ⟨a0, a1, a2, a3⟩, _⟩ := mbox hb1
  have HW := Lib.hid hW1
  have HB1 := Lib.hid hb1
  clear hW1 hb1 h h' hB hlp hlt
  go_enter Try.func10, Try.ntmps10
  go_upto_region 1 with fail
  rw [← HW.out]
  go_cut [3] from 5 (fun v W => v = .bool (lp && lt && lb) ∧ Keeps (fun _ => False) W1 W)
  case first =>
    go_wp2_with fail
    refine hl1.mono ?_
    clear hl1
    rintro e W ⟨rfl, hk⟩
    have hl2' := hl2.out W hk
    obtain ⟨⟨o0, o9⟩, _, ⟨d0, d1, d2, d3⟩⟩ := mbox (hk.heap HB1.out)
    clear hl2
    cases lp with
    | false =>
      go_wp2_with fail
      go_meet
      case rel => exact ⟨by simp, hk⟩
    | true =>
      go_wp2_with fail
      refine hl2'.mono ?_
      clear hl2' d0 d1 d2 d3 o0 o9
      rintro e W2 ⟨rfl, hk2⟩
      obtain ⟨⟨o0, o9⟩, _, _⟩ := mbox ((hk.trans hk2).heap HB1.out)
      cases lt with
      | false =>
        go_wp2_with fail
        go_meet
        case rel => exact ⟨by simp, hk.trans hk2⟩
      | true =>
        go_wp2_with fail
        go_meet
        case rel => exact ⟨by simp [← hlb], hk.trans hk2⟩
  case rest =>
    obtain ⟨W2, hW2⟩ : ∃ V, V = wc := ⟨_, rfl⟩
    subst hW2
    obtain ⟨hu, hk2⟩ := hcut
    subst hu
    obtain ⟨r0, hr0⟩ : ∃ v, (lp && lt && lb) = v := ⟨_, rfl⟩
    have HF0 : Hid (mlightF p t bs = (r0 && bs.all (fun e => decide (0 ≤ lightN e.2)))) := by show mlightF p t bs = _; rw [HF.out, hr0]
    rw [hr0]
    obtain ⟨⟨o0, o9⟩, _, _⟩ := mbox (hk2.heap HB1.out)
    clear hl1 hl2 hr0 HF hlb
    go_wp2_with fail
    go_loopg [3, 4] bl (fun m v i W => ∃ j : Nat, j + m = bl ∧ i = .int .i64 j ∧ ∃ r, v = .bool r ∧ mlightF p t bs = (r && (bs.drop j).all (fun e => decide (0 ≤ lightN e.2))) ∧ Keeps (fun _ => False) W1 W)
    case atStart => exact ⟨0, by omega, rfl, r0, rfl, HF0.out, hk2⟩
    case round =>
      obtain ⟨j, hjm, rfl, r, rfl, hF, hk⟩ := hrel
      obtain ⟨⟨o0, o9⟩, _, _⟩ := mbox (hk.heap HB1.out)
      have hBr := HBA.out.next hk
      have HM := Lib.hid hjm
      have HFj := Lib.hid hF
      have HKj := Lib.hid hk
      clear hjm hF hk
      have hj0 : (0 : Int) ≤ (j : Int) := Int.natCast_nonneg _
      by_cases hlt : j < bl
      · cases r with
        | false =>
          clear hBr
          go_wp2_with fail
          go_ret
          exact ⟨by rw [HFj.out]; rfl, hK.trans HKj.out⟩
        | true =>
          obtain ⟨bb, bo, rfl, _, _⟩ := hBr.addr (by omega)
          obtain ⟨⟨nm, y⟩, he⟩ : ∃ e, bs[j]? = some e := ⟨_, List.getElem?_eq_getElem (by omega)⟩
          obtain ⟨hnm, hc0, hbA, hbb, yp, yl, yc, hyt⟩ := hBr.at_ he
          have hly := Light_any y yp yl yc _ wr hyt.tv
          have y0 := hyt.c0
          have y1 := hyt.c1
          have y2 := hyt.c2
          have y3 := hyt.c3
          have hd : Hid ((bs.drop j) = (nm, y) :: bs.drop (j + 1)) := by show bs.drop j = _; rw [List.drop_eq_getElem_cons (by omega)]; congr 1; exact (List.getElem?_eq_some_iff.1 he).2
          have hi1 : (j : Int) < (bl : Int) := by omega
          clear hBr he hyt
          go_wp2_with fail
          refine hly.mono ?_
          clear hly
          rintro e W3 ⟨rfl, hk3⟩
          go_wp2_with fail
          go_roundg (gk - 1)
          case measure => have := HM.out; omega
          case rel => exact ⟨j + 1, by have := HM.out; omega, by go_num, _, rfl, by rw [HFj.out, hd.out, List.all_cons]; simp, HKj.out.trans hk3⟩
      · have hdn : Hid (bs.drop j = []) := List.drop_eq_nil_of_le (by omega)
        clear hBr
        cases r
        all_goals
          go_wp2_with fail
          go_ret
          exact ⟨by rw [HFj.out, hdn.out]; rfl, hK.trans HKj.out⟩
end Go.Proofs.Ytccoihmibkpedaa
