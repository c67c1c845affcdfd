/-
  Merged texts: XMatQ, XBnd, XBndRead, XBackP, XLayP, XFillP, XBackQ, XBackR, XBackS, XBackT, XMatG, XFndP, XMBegP, XMatL, XMLight.
-/
import Derived.Test.YtnphhibfiklfjaaMatF

import Derived.Test.YtnphhibfiklfjaaPut

import Derived.Test.YtnphhibfiklfjaaPkA

import Derived.Test.YtnphhibfiklfjaaPkC

import Derived.Test.YtnphhibfiklfjaaPkD

import Derived.Test.YtnphhibfiklfjaaOf

set_option linter.unusedVariables false

set_option linter.unusedSimpArgs false

/-!
  Patterns that may be: their variables agree; what fits binds each name once, in order. Plain.
-/
namespace Go.Proofs.Ytnphhibfiklfjaa

open Go.RowKit

theorem snoc_induct {α : Type} {P : List α → Prop} (h0 : P []) (h1 : ∀ l x, P l → P (l ++ [x])) : ∀ l, P l := by
  intro l
  rw [← List.reverse_reverse l]
  induction l.reverse with
  | nil => exact h0
  | cons x r ih => rw [List.reverse_cons]; exact h1 _ _ ih
theorem vis_prefix {f : List Nd → Nd → Bool} {l : List Nd} {x : Nd} (h : (vis f [] (l ++ [x])).2 = true) : (vis f [] l).2 = true ∧ f l x = true := by
  rw [vis_append] at h
  by_cases hl : (vis f [] l).2 = true
  · rw [if_pos hl, vis_true hl] at h
    refine ⟨hl, ?_⟩
    simp only [List.nil_append, vis] at h
    split at h
    · assumption
    · simp at h
  · rw [if_neg hl] at h
    exact absurd h hl
theorem right_leaf {x : Nd} (h : rightF x = true) : x.c = .nil ∧ (x.n = 0 ∨ x.n = 1 ∨ x.n = 2) := by
  simp only [rightF, Bool.and_eq_true, Bool.or_eq_true, decide_eq_true_eq] at h
  obtain ⟨h1, h2⟩ := h
  refine ⟨?_, ?_⟩
  · cases hc : x.c with
    | nil => rfl
    | cons k n t c r => rw [hc] at h1; simp [Fo.len] at h1
  · rcases h2 with ⟨h2, _⟩ | ⟨h2, _⟩ <;> omega
theorem may_facts : ∀ (l : List Nd), (vis fMay [] l).2 = true → (∀ x ∈ l, ∀ nm, varF x.k = some nm → rightF x = true ∧ nget (nts l) nm = some (x.n, x.t)) := by
  refine snoc_induct (fun _ x hx => by simp at hx) (fun l y ih h x hx nm hv => ?_)
  obtain ⟨h1, h2⟩ := vis_prefix h
  rw [nts_snoc, nget_nadd]
  rcases List.mem_append.1 hx with hx | hx
  · obtain ⟨g1, g2⟩ := ih h1 x hx nm hv
    refine ⟨g1, ?_⟩
    rw [g2]
    split <;> rfl
  · simp only [List.mem_singleton] at hx
    subst hx
    unfold fMay at h2
    rw [hv] at h2
    simp only [Bool.and_eq_true] at h2
    refine ⟨h2.1, ?_⟩
    rw [if_pos hv]
    cases hg : nget (nts l) nm with
    | none => rfl
    | some e => rw [hg] at h2; simp only [decide_eq_true_eq] at h2; rw [h2.2]; rfl
theorem patOK_of_may {l : List Nd} (h : (vis fMay [] l).2 = true) : PatOK l := by
  have hf := may_facts l h
  refine ⟨fun x hx y hy nm hvx hvy => ?_, fun x hx hv => ?_, fun x hx hv => ?_⟩
  · have h1 := (hf x hx nm hvx).2
    have h2 := (hf y hy nm hvy).2
    rw [h1] at h2
    simpa using h2
  · obtain ⟨nm, hn⟩ := Option.isSome_iff_exists.1 hv
    exact (right_leaf (hf x hx nm hn).1).2
  · obtain ⟨nm, hn⟩ := Option.isSome_iff_exists.1 hv
    exact (right_leaf (hf x hx nm hn).1).1
theorem pmayF_zero {x : Nd} (h : pmayF x = 0) : mayF x = 0 ∧ (vis fMay [] x.all).2 = true := by
  unfold pmayF at h
  split at h
  · rename_i h0
    refine ⟨h0, ?_⟩
    split at h
    · assumption
    · simp at h
  · rename_i h0; exact absurd h h0
theorem patOK_of {x : Nd} (h : pmayF x = 0) : PatOK x.all := patOK_of_may (pmayF_zero h).2
theorem bget_none {bs : List Bind} {nm : ByteArray} (h : bget bs nm = none) : nm ∉ bs.map (·.1) := by
  intro hm
  obtain ⟨e, he, rfl⟩ := List.mem_map.1 hm
  unfold bget at h
  simp only [Option.map_eq_none_iff, List.find?_eq_none, decide_eq_true_eq] at h
  exact h e he rfl
theorem bget_some {bs : List Bind} {nm : ByteArray} {y : Nd} (h : bget bs nm = some y) : nm ∈ bs.map (·.1) ∧ (nm, y) ∈ bs := by
  unfold bget at h
  cases hf : bs.find? (fun e => decide (e.1 = nm)) with
  | none => rw [hf] at h; simp at h
  | some q =>
    rw [hf] at h
    simp only [Option.map_some, Option.some.injEq] at h
    have h1 := List.mem_of_find?_eq_some hf
    have h2 := List.find?_some hf
    simp only [decide_eq_true_eq] at h2
    have : q = (nm, y) := by rw [← h2, ← h]
    rw [this] at h1
    exact ⟨List.mem_map.2 ⟨_, h1, rfl⟩, h1⟩
theorem nget_iff {L : List Note} {nm : ByteArray} : (nget L nm).isSome = true ↔ nm ∈ L.map (·.1) := by
  unfold nget
  rw [Option.isSome_map, List.find?_isSome]
  constructor
  · rintro ⟨x, hx, h⟩
    simp only [decide_eq_true_eq] at h
    exact List.mem_map.2 ⟨x, hx, h⟩
  · intro h
    obtain ⟨x, hx, h⟩ := List.mem_map.1 h
    exact ⟨x, hx, by simpa using h⟩
theorem bget_iff {bs : List Bind} {nm : ByteArray} : (bget bs nm).isSome = true ↔ nm ∈ bs.map (·.1) := by
  unfold bget
  rw [Option.isSome_map, List.find?_isSome]
  constructor
  · rintro ⟨x, hx, h⟩
    simp only [decide_eq_true_eq] at h
    exact List.mem_map.2 ⟨x, hx, h⟩
  · intro h
    obtain ⟨x, hx, h⟩ := List.mem_map.1 h
    exact ⟨x, hx, by simpa using h⟩
theorem bind_names {bs : List Bind} {nm : ByteArray} {n : Int} {t : ByteArray} {y x : Nd} {L : List Note} (hv : varF x.k = some nm) (h : (bindF bs nm n t y).2 = true) (hb : bs.map (·.1) = L.map (·.1)) : (bindF bs nm n t y).1.map (·.1) = (nadd L x).map (·.1) := by
  unfold bindF at h ⊢
  unfold nadd
  rw [hv]
  by_cases hl : likeF n t y = true
  · rw [if_pos hl] at h ⊢
    cases hg : bget bs nm with
    | some z =>
      have : (nget L nm).isSome = true := by rw [nget_iff, ← hb, ← bget_iff, hg]; rfl
      simp only [this, if_true]
      exact hb
    | none =>
      have : ¬ (nget L nm).isSome = true := by rw [nget_iff, ← hb, ← bget_iff, hg]; simp
      simp only [if_neg this, List.map_append, hb]
      rfl
  · rw [if_neg hl] at h
    simp at h
theorem wordB_size {s : ByteArray} (h : wordB s.data.toList = true) : s.size ≤ 16 := by
  unfold wordB madeB at h
  split at h
  · simp at h
  · rename_i c r hd
    simp only [Bool.and_eq_true, decide_eq_true_eq] at h
    have h1 := h.1.1
    have : s.size = s.data.toList.length := by simp
    omega
theorem varF_word {k nm : ByteArray} (h : varF k = some nm) : wordB nm.data.toList = true ∧ nm.size ≤ 16 := by
  obtain ⟨h1, _, h3⟩ := varF_some h
  rw [kindB_eq] at h1
  simp only [Bool.and_eq_true] at h1
  have h4 : wordB nm.data.toList = true := by rw [h3]; exact h1.2
  exact ⟨h4, wordB_size h4⟩
theorem nts_word {l : List Nd} {nm : ByteArray} (h : nm ∈ (nts l).map (·.1)) : wordB nm.data.toList = true ∧ nm.size ≤ 16 := by
  obtain ⟨e, he⟩ := Option.isSome_iff_exists.1 (nget_iff.2 h)
  obtain ⟨x, _, hv, _⟩ := nts_size he
  exact varF_word hv
/-- Each name, once, in order. -/
theorem fitFo_names : ∀ (f g : Fo) (bs : List Bind) (L : List Note), (∀ x ∈ f.all, (varF x.k).isSome → x.c = .nil) → f.len = g.len → (fitFo f g bs).2 = true → bs.map (·.1) = L.map (·.1) → (fitFo f g bs).1.map (·.1) = (f.all.foldl nadd L).map (·.1)
  | .nil, g, bs, L, _, _, _, hb => by simpa [fitFo, Fo.all] using hb
  | .cons k n t c r, .nil, bs, L, _, hl, _, hb => by simp [Fo.len] at hl
  | .cons k n t c r, .cons k' n' t' c' r', bs, L, hlf, hl, h, hb => by
    rw [fitFo_cons] at h ⊢
    by_cases h1 : (fit1 k n t c ⟨k', n', t', c'⟩ bs).2 = true
    · rw [if_pos h1] at h ⊢
      have hlr : r.len = r'.len := by simpa [Fo.len] using hl
      have h2 : (fit1 k n t c ⟨k', n', t', c'⟩ bs).1.map (·.1) = (c.all.foldl nadd (nadd L ⟨k, n, t, c⟩)).map (·.1) := by
        unfold fit1 at h1 ⊢
        cases hv : varF k with
        | some nm =>
          rw [hv] at h1
          have hc : c = .nil := hlf ⟨k, n, t, c⟩ (by simp [Fo.all]) (by simp [hv])
          subst hc
          exact bind_names (x := ⟨k, n, t, .nil⟩) hv h1 hb
        | none =>
          rw [hv] at h1
          simp only at h1 ⊢
          split at h1
          · rename_i hc
            rw [if_pos hc]
            have : nadd L ⟨k, n, t, c⟩ = L := by unfold nadd; simp only; rw [hv]
            rw [this]
            exact fitFo_names c c' bs L (fun x hx => hlf x (by simp [Fo.all, hx])) hc.2.2.2 h1 hb
          · simp at h1
      have := fitFo_names r r' _ (c.all.foldl nadd (nadd L ⟨k, n, t, c⟩)) (fun x hx => hlf x (by simp [Fo.all, hx])) hlr h h2
      simpa [Fo.all, List.foldl_append] using this
    · rw [if_neg h1] at h
      simp at h
theorem fit1_names {p y : Nd} (hp : PatOK p.all) (h : (fit1 p.k p.n p.t p.c y []).2 = true) : (fit1 p.k p.n p.t p.c y []).1.map (·.1) = (nts p.all).map (·.1) := by
  unfold fit1 at h ⊢
  cases hv : varF p.k with
  | some nm =>
    rw [hv] at h
    have hc : p.c = .nil := hp.leaf p (by simp [Nd.all]) (by simp [hv])
    have := bind_names (x := p) (L := []) hv h rfl
    simp only [nts, Nd.all, hc, Fo.all, List.foldl_cons, List.foldl_nil]
    exact this
  | none =>
    rw [hv] at h
    simp only at h ⊢
    split at h
    · rename_i hc
      rw [if_pos hc]
      have : nadd [] p = [] := by unfold nadd; rw [hv]
      simp only [nts, Nd.all, List.foldl_cons, this]
      exact fitFo_names p.c y.c [] [] (fun x hx => hp.leaf x (by simp [Nd.all, hx])) hc.2.2.2 h rfl
    · simp at h
/-- No name twice. -/
theorem nts_nodup (l : List Nd) : ((nts l).map (·.1)).Nodup := by
  refine snoc_induct (P := fun l => ((nts l).map (·.1)).Nodup) (by simp [nts]) (fun l x ih => ?_) l
  rw [nts_snoc, nadd]
  cases hv : varF x.k with
  | none => exact ih
  | some nm =>
    simp only
    split
    · exact ih
    · rename_i h
      rw [List.map_append]
      refine List.nodup_append.2 ⟨ih, by simp, fun a ha b hb e => ?_⟩
      simp only [List.map_cons, List.map_nil, List.mem_singleton] at hb
      subst hb e
      exact h (nget_iff.2 ha)
theorem bget_at {bs : List Bind} (hnd : (bs.map (·.1)).Nodup) {i : Nat} {nm : ByteArray} {y : Nd} (h : bs[i]? = some (nm, y)) : bget bs nm = some y := by
  induction bs generalizing i with
  | nil => simp at h
  | cons e r ih =>
    simp only [List.map_cons, List.nodup_cons] at hnd
    cases i with
    | zero =>
      simp only [List.getElem?_cons_zero, Option.some.injEq] at h
      subst h
      simp [bget]
    | succ i =>
      simp only [List.getElem?_cons_succ] at h
      have hne : e.1 ≠ nm := fun he => hnd.1 (by rw [he]; exact List.mem_map.2 ⟨(nm, y), List.mem_of_getElem? h, rfl⟩)
      have := ih hnd.2 h
      unfold bget at this ⊢
      rw [List.find?_cons, show decide (e.1 = nm) = false by simpa using hne]
      exact this
end Go.Proofs.Ytnphhibfiklfjaa

/-!
  Lists of bounds (a name, a tree) in memory: readable; and in memory of their own.
-/
namespace Go.Proofs.Ytnphhibfiklfjaa

open Go.RowKit

def BindsAt (w : World) (A : Nat → Prop) : List Bind → Option Addr → Nat → Prop
  | [], _, n => n = 0
  | (nm, x) :: r, p, n => ∃ b o m cp cl cc, p = some ⟨b, o, none⟩ ∧ n = m + 1 ∧ n ≤ 9223372036854775807 ∧ A b ∧ b < w.heap.size ∧ nm.size ≤ 140737488351232 ∧ w.cell? ⟨b, o, none⟩ = some (.string nm) ∧ NodeAt w A b (o + 1) x.k x.n x.t x.c cp cl cc ∧ BindsAt w A r (some ⟨b, o + 5, none⟩) m
section

variable {w w1 : World} {A A' S : Nat → Prop}

theorem BindsAt.keeps (hk : Keeps S w w1) (hA : ∀ b, A b → ¬ S b) : ∀ {bs : List Bind} {p : Option Addr} {n : Nat}, BindsAt w A bs p n → BindsAt w1 A bs p n
  | [], _, _, h => h
  | (nm, x) :: r, _, _, ⟨b, o, m, cp, cl, cc, hp, hn, hm, hb, hl, hs, hc, ht, hr⟩ => ⟨b, o, m, cp, cl, cc, hp, hn, hm, hb, Nat.lt_of_lt_of_le hl hk.size, hs, (hk.cell (p := ⟨b, o, none⟩) hl (hA b hb)).trans hc, ht.keeps hk hA hl (hA b hb), BindsAt.keeps hk hA hr⟩
theorem BindsAt.next {bs : List Bind} {p : Option Addr} {n : Nat} (h : BindsAt w A bs p n) (hk : Keeps (fun _ => False) w w1) : BindsAt w1 A bs p n := h.keeps hk (fun _ _ h => h)
theorem BindsAt.mono (hA : ∀ b, A b → A' b) : ∀ {bs : List Bind} {p : Option Addr} {n : Nat}, BindsAt w A bs p n → BindsAt w A' bs p n
  | [], _, _, h => h
  | (nm, x) :: r, _, _, ⟨b, o, m, cp, cl, cc, hp, hn, hm, hb, hl, hs, hc, ht, hr⟩ => ⟨b, o, m, cp, cl, cc, hp, hn, hm, hA b hb, hl, hs, hc, ht.mono hA, BindsAt.mono hA hr⟩
theorem BindsAt.top : ∀ {bs : List Bind} {p : Option Addr} {n : Nat}, BindsAt w A bs p n → BindsAt w (fun b => b < w.heap.size) bs p n
  | [], _, _, h => h
  | (nm, x) :: r, _, _, ⟨b, o, m, cp, cl, cc, hp, hn, hm, hb, hl, hs, hc, ht, hr⟩ => ⟨b, o, m, cp, cl, cc, hp, hn, hm, hl, hl, hs, hc, ht.top, BindsAt.top hr⟩
theorem BindsAt.len : ∀ {bs : List Bind} {p : Option Addr} {n : Nat}, BindsAt w A bs p n → bs.length = n
  | [], _, _, h => h.symm
  | (nm, x) :: r, _, _, ⟨_, _, _, _, _, _, _, hn, _, _, _, _, _, _, hr⟩ => by rw [hn, List.length_cons, BindsAt.len hr]
/-- The i-th. -/
theorem BindsAt.at_ : ∀ {bs : List Bind} {b o n i : Nat} {nm : ByteArray} {x : Nd}, BindsAt w A bs (some ⟨b, o, none⟩) n → bs[i]? = some (nm, x) →
    nm.size ≤ 140737488351232 ∧ w.cell? ⟨b, o + i * 5, none⟩ = some (.string nm) ∧ A b ∧ b < w.heap.size ∧ ∃ cp cl cc, NodeAt w A b (o + i * 5 + 1) x.k x.n x.t x.c cp cl cc
  | [], _, _, _, _, _, _, _, h => by simp at h
  | (nm', x') :: r, b, o, n, 0, nm, x, ⟨b', o', m, cp, cl, cc, hp, hn, hm, hb, hl, hs, hc, ht, hr⟩, h => by
    simp only [Option.some.injEq, Addr.mk.injEq, and_true] at hp
    obtain ⟨rfl, rfl⟩ := hp
    simp only [List.getElem?_cons_zero, Option.some.injEq, Prod.mk.injEq] at h
    obtain ⟨rfl, rfl⟩ := h
    exact ⟨hs, by simpa using hc, hb, hl, cp, cl, cc, by simpa using ht⟩
  | (nm', x') :: r, b, o, n, i + 1, nm, x, ⟨b', o', m, cp, cl, cc, hp, hn, hm, hb, hl, hs, hc, ht, hr⟩, h => by
    simp only [Option.some.injEq, Addr.mk.injEq, and_true] at hp
    obtain ⟨rfl, rfl⟩ := hp
    simp only [List.getElem?_cons_succ] at h
    have := BindsAt.at_ hr h
    rw [show o + (i + 1) * 5 = o + 5 + i * 5 by omega]
    exact this
theorem BindsAt.addr {bs : List Bind} {p : Option Addr} {n : Nat} (h : BindsAt w A bs p n) (hn : 0 < n) : ∃ b o, p = some ⟨b, o, none⟩ ∧ A b ∧ b < w.heap.size := by
  cases bs with
  | nil => have : n = 0 := h; omega
  | cons e r => obtain ⟨b, o, m, cp, cl, cc, hp, _, _, hb, hl, _⟩ := h; exact ⟨b, o, hp, hb, hl⟩
end

/-- The values xs are the bounds, five cells each; blks: the blocks of the lists of kids beneath. -/
def BindsRep (w : World) : List Bind → List Value → List Nat → Prop
  | [], xs, bs => xs = [] ∧ bs = []
  | (nm, x) :: L, xs, bs => ∃ cp cl cc bs1 xs' bs2, xs = .string nm :: .string x.k :: .int .i64 x.n :: .string x.t :: .slice cp cl cc :: xs' ∧ bs = bs1 ++ bs2 ∧ nm.size ≤ 140737488351232 ∧ szok x.k x.t ∧ Own w x.c cp cl cc bs1 ∧ BindsRep w L xs' bs2
theorem BindsRep.shape {w : World} : ∀ {L : List Bind} {xs : List Value} {bs : List Nat}, BindsRep w L xs bs → ∀ b ∈ bs, ∃ cur, w.heap[b]? = some (.cells cur T (0, 0))
  | [], _, _, ⟨_, rfl⟩, b, hb => by simp at hb
  | (nm, x) :: L, _, _, ⟨cp, cl, cc, bs1, xs', bs2, _, rfl, _, _, ho, hr⟩, b, hb => by
    rcases List.mem_append.1 hb with hb | hb
    · exact ho.shape b hb
    · exact BindsRep.shape hr b hb
theorem BindsRep.same {w w1 : World} : ∀ {L : List Bind} {xs : List Value} {bs : List Nat}, BindsRep w L xs bs → (∀ b ∈ bs, w1.heap[b]? = w.heap[b]?) → BindsRep w1 L xs bs
  | [], _, _, h, _ => h
  | (nm, x) :: L, _, _, ⟨cp, cl, cc, bs1, xs', bs2, hx, hb, hn, hs, ho, hr⟩, h => by
    subst hb
    exact ⟨cp, cl, cc, bs1, xs', bs2, hx, rfl, hn, hs, ho.same (fun b hb => h b (List.mem_append.2 (.inl hb))), BindsRep.same hr (fun b hb => h b (List.mem_append.2 (.inr hb)))⟩
theorem BindsRep.snoc {w : World} {nm : ByteArray} {x : Nd} {cp : Option Addr} {cl cc : Nat} {bs1 : List Nat} (hn : nm.size ≤ 140737488351232) (hs : szok x.k x.t) (ho : Own w x.c cp cl cc bs1) : ∀ {L : List Bind} {xs : List Value} {bs : List Nat}, BindsRep w L xs bs →
    BindsRep w (L ++ [(nm, x)]) (xs ++ [.string nm, .string x.k, .int .i64 x.n, .string x.t, .slice cp cl cc]) (bs ++ bs1)
  | [], _, _, ⟨rfl, rfl⟩ => ⟨cp, cl, cc, bs1, [], [], rfl, by simp, hn, hs, ho, rfl, rfl⟩
  | (nm', x') :: L, _, _, ⟨cp', cl', cc', bs1', xs', bs2', rfl, rfl, hn', hs', ho', hr⟩ => ⟨cp', cl', cc', bs1', _, _, rfl, by simp [List.append_assoc], hn', hs', ho', BindsRep.snoc hn hs ho hr⟩
/-- Read cell by cell. -/
theorem BindsRep.at_ {w : World} {A : Nat → Prop} : ∀ {L : List Bind} {xs : List Value} {bs : List Nat} {g o : Nat}, BindsRep w L xs bs → (∀ j u, xs[j]? = some u → w.cell? ⟨g, o + j, none⟩ = some u) → A g → g < w.heap.size → L.length ≤ 9223372036854775807 → (∀ b ∈ bs, A b) → BindsAt w A L (some ⟨g, o, none⟩) L.length
  | [], _, _, _, _, _, _, _, _, _, _ => rfl
  | (nm, x) :: L, _, _, g, o, ⟨cp, cl, cc, bs1, xs', bs2, rfl, rfl, hn, hs, ho, hr⟩, hc, hA, hg, hl, hb => by
    obtain ⟨h1, h2, h3, h4⟩ := ho.kids (A := A) (fun b h => hb b (List.mem_append.2 (.inl h)))
    refine ⟨g, o, L.length, cp, cl, cc, rfl, rfl, hl, hA, hg, hn, hc 0 _ rfl, ⟨hs, h2, h3, hc 1 _ rfl, ?_, ?_, ?_, h1⟩, ?_⟩
    · have := hc 2 _ rfl
      rw [show o + 1 + 1 = o + 2 by omega]; exact this
    · have := hc 3 _ rfl
      rw [show o + 1 + 2 = o + 3 by omega]; exact this
    · have := hc 4 _ rfl
      rw [show o + 1 + 3 = o + 4 by omega]; exact this
    · refine BindsRep.at_ hr (fun j u hu => ?_) hA hg (by simp only [List.length_cons] at hl; omega) (fun b h => hb b (List.mem_append.2 (.inr h)))
      have := hc (j + 5) u (by simpa using hu)
      rw [show o + 5 + j = o + (j + 5) by omega]
      exact this
section

variable {D : Nat} {W W1 : World} {L : List Bind} {lp : Option Addr} {ll lc : Nat} {xs : List Value} {bs : List Nat}

end

end Go.Proofs.Ytnphhibfiklfjaa

/-!
  The row's reading of a list of bounds.
-/
namespace Go.Proofs.Ytnphhibfiklfjaa

open Go.RowKit

section

variable {H : Type} {enc : TypeId × Value → H} {w : World} {held : Bool} {sp : Nat → Bool}

/-- A bound's five cells. -/
def IsBnd (w : World) (cs : List Value) : Prop := ∃ (nm : ByteArray) (x : Nd) (cp : Option Addr) (cl cc : Nat), cs = [.string nm, .string x.k, .int .i64 x.n, .string x.t, .slice cp cl cc] ∧ nm.size ≤ 140737488351232 ∧ Tv w (fun b => b < w.heap.size) x.k x.t x.c cp cl cc
end

end Go.Proofs.Ytnphhibfiklfjaa

/-!
  What a tree is told to fit with makes the tree again, in plain Lean.
-/
namespace Go.Proofs.Ytnphhibfiklfjaa

open Go.RowKit

/-- What is bound stays bound. -/
def Ext (bs bs' : List Bind) : Prop := ∀ nm y, bget bs nm = some y → bget bs' nm = some y
theorem Ext.refl (bs : List Bind) : Ext bs bs := fun _ _ h => h
theorem Ext.trans {a b c : List Bind} (h : Ext a b) (h' : Ext b c) : Ext a c := fun nm y hy => h' nm y (h nm y hy)
theorem Ext.snoc {bs : List Bind} {nm : ByteArray} {y : Nd} (h : bget bs nm = none) : Ext bs (bs ++ [(nm, y)]) := fun a z hz => by
  unfold bget at hz ⊢
  rw [List.find?_append]
  cases hf : bs.find? (fun e => decide (e.1 = a)) with
  | none => rw [hf] at hz; simp at hz
  | some e => rw [hf] at hz; simpa using hz
theorem bget_last {bs : List Bind} {nm : ByteArray} {y : Nd} (h : bget bs nm = none) : bget (bs ++ [(nm, y)]) nm = some y := by
  unfold bget at h ⊢
  rw [List.find?_append]
  cases hf : bs.find? (fun e => decide (e.1 = nm)) with
  | none => simp
  | some e => rw [hf] at h; simp at h
theorem bindF_ext {bs : List Bind} {nm : ByteArray} {n : Int} {t : ByteArray} {y : Nd} : Ext bs (bindF bs nm n t y).1 ∧ ((bindF bs nm n t y).2 = true → bget (bindF bs nm n t y).1 nm = some y) := by
  unfold bindF
  by_cases hl : likeF n t y = true
  · rw [if_pos hl]
    cases hb : bget bs nm with
    | none => exact ⟨Ext.snoc hb, fun _ => bget_last hb⟩
    | some z =>
      refine ⟨Ext.refl _, fun h => ?_⟩
      have : z = y := by simpa [eqN] using h
      rw [← this]; exact hb
  · rw [if_neg hl]
    exact ⟨Ext.refl _, fun h => by simp at h⟩
theorem fitFo_fill : ∀ (f g : Fo) (bs : List Bind), Ext bs (fitFo f g bs).1 ∧ (f.len = g.len → (fitFo f g bs).2 = true → ∀ bs', Ext (fitFo f g bs).1 bs' → fillFo bs' f = g) := by
  intro f
  induction f with
  | nil =>
    intro g bs
    cases g with
    | nil => exact ⟨Ext.refl _, fun _ _ _ _ => rfl⟩
    | cons k n t c r => exact ⟨Ext.refl _, fun h => by simp [Fo.len] at h⟩
  | cons k n t c r ihc ihr =>
    intro g bs
    cases g with
    | nil => exact ⟨Ext.refl _, fun h => by simp [Fo.len] at h⟩
    | cons k' n' t' c' r' =>
      have hone : Ext bs (fit1 k n t c ⟨k', n', t', c'⟩ bs).1 ∧ ((fit1 k n t c ⟨k', n', t', c'⟩ bs).2 = true → ∀ bs', Ext (fit1 k n t c ⟨k', n', t', c'⟩ bs).1 bs' → fill1 bs' ⟨k, n, t, c⟩ = ⟨k', n', t', c'⟩) := by
        unfold fit1
        cases hv : varF k with
        | some nm =>
          obtain ⟨h1, h2⟩ := bindF_ext (bs := bs) (nm := nm) (n := n) (t := t) (y := ⟨k', n', t', c'⟩)
          refine ⟨h1, fun h bs' he => ?_⟩
          have := he nm _ (h2 h)
          unfold fill1
          simp only [hv, this, Option.getD_some]
        | none =>
          simp only
          by_cases hc : k = k' ∧ n = n' ∧ t = t' ∧ c.len = c'.len
          · rw [if_pos hc]
            obtain ⟨h1, h2⟩ := ihc c' bs
            refine ⟨h1, fun h bs' he => ?_⟩
            have := h2 hc.2.2.2 h bs' he
            unfold fill1
            simp only [hv, this]
            obtain ⟨rfl, rfl, rfl, _⟩ := hc
            rfl
          · rw [if_neg hc]
            exact ⟨Ext.refl _, fun h => by simp at h⟩
      rw [fitFo_cons]
      by_cases h : (fit1 k n t c ⟨k', n', t', c'⟩ bs).2 = true
      · rw [if_pos h]
        obtain ⟨h1, h2⟩ := ihr r' (fit1 k n t c ⟨k', n', t', c'⟩ bs).1
        refine ⟨hone.1.trans h1, fun hl hh bs' he => ?_⟩
        have e1 := hone.2 h bs' (h1.trans he)
        have e2 := h2 (by simpa [Fo.len] using hl) hh bs' he
        rw [fillFo_cons, e1, e2]
      · rw [if_neg h]
        exact ⟨hone.1, fun _ hh => by simp at hh⟩
/-- THE FIRST HALF. -/
theorem fit1_fill {p t : Nd} (h : (fit1 p.k p.n p.t p.c t []).2 = true) : fill1 (fit1 p.k p.n p.t p.c t []).1 p = t := by
  unfold fit1 at h ⊢
  cases hv : varF p.k with
  | some nm =>
    rw [hv] at h
    have h2 := (bindF_ext (bs := []) (nm := nm) (n := p.n) (t := p.t) (y := t)).2 h
    unfold fill1
    simp only [hv]
    rw [h2]; rfl
  | none =>
    rw [hv] at h
    simp only at h ⊢
    by_cases hc : p.k = t.k ∧ p.n = t.n ∧ p.t = t.t ∧ p.c.len = t.c.len
    · rw [if_pos hc] at h ⊢
      have := (fitFo_fill p.c t.c []).2 hc.2.2.2 h _ (Ext.refl _)
      unfold fill1
      simp only [hv, this]
      rw [hc.1, hc.2.1, hc.2.2.1]
    · rw [if_neg hc] at h
      simp at h
end Go.Proofs.Ytnphhibfiklfjaa

/-!
  match's lay, in plain Lean: the tree that is laid; what is known of the names; a list of kids that is built.
-/
namespace Go.Proofs.Ytnphhibfiklfjaa

open Go.RowKit

/-- With names known, the filled tree; without, the tree itself. -/
def fl (m : Option (List Bind)) (x : Nd) : Nd := match m with
  | none => x
  | some bs => fill1 bs x
def flF (m : Option (List Bind)) (c : Fo) : Fo := match m with
  | none => c
  | some bs => fillFo bs c
theorem fillFo_drop (bs : List Bind) : ∀ {c : Fo} {j : Nat} {k n t s r}, c.drop j = .cons k n t s r → (fillFo bs c).drop j = .cons (fill1 bs ⟨k, n, t, s⟩).k (fill1 bs ⟨k, n, t, s⟩).n (fill1 bs ⟨k, n, t, s⟩).t (fill1 bs ⟨k, n, t, s⟩).c (fillFo bs r)
  | .nil, j, _, _, _, _, _, h => by rw [Fo.drop_nil] at h; simp at h
  | .cons k' n' t' s' r', 0, _, _, _, _, _, h => by
    simp only [Fo.drop] at h
    injection h with e1 e2 e3 e4 e5
    subst e1 e2 e3 e4 e5
    rw [Fo.drop, fillFo_cons]
  | .cons k' n' t' s' r', j + 1, _, _, _, _, _, h => by
    rw [fillFo_cons, Fo.drop]
    exact fillFo_drop bs (c := r') (j := j) h
theorem fillFo_len (bs : List Bind) (c : Fo) : (fillFo bs c).len = c.len := by
  induction c with
  | nil => rfl
  | cons k n t s r _ ih => rw [fillFo_cons, Fo.len, Fo.len, ih]
theorem flF_drop (m : Option (List Bind)) {c : Fo} {j : Nat} {k n t s r} (h : c.drop j = .cons k n t s r) : (flF m c).drop j = .cons (fl m ⟨k, n, t, s⟩).k (fl m ⟨k, n, t, s⟩).n (fl m ⟨k, n, t, s⟩).t (fl m ⟨k, n, t, s⟩).c (flF m r) := by
  cases m with
  | none => exact h
  | some bs => exact fillFo_drop bs h
theorem flF_len (m : Option (List Bind)) (c : Fo) : (flF m c).len = c.len := by
  cases m with
  | none => rfl
  | some bs => exact fillFo_len bs c
/-- What the map tells lay. -/
def KnownS (A : Nat → Prop) (Rb : Nat) (W : World) (kv : Value) (m : Option (List Bind)) : Prop := match m with
  | none => kv = .map none
  | some bs => ∃ Mb M n, kv = .map (some Mb) ∧ MapAt W Mb M n ∧ Mb ≠ Rb ∧ ∀ nm y, bget bs nm = some y → y.c.nodes < 1500 ∧ ∃ b o cp cl cc, M nm = some (.pointer (some ⟨b, o, none⟩)) ∧ A b ∧ b < W.heap.size ∧ NodeAt W A b o y.k y.n y.t y.c cp cl cc
theorem KnownS.keeps {A S : Nat → Prop} {Rb : Nat} {W W' : World} {kv : Value} {m : Option (List Bind)} (h : KnownS A Rb W kv m) (hk : Keeps S W W') (hS : ∀ b, S b → b = Rb) (hA : ∀ b, A b → b ≠ Rb) : KnownS A Rb W' kv m := by
  cases m with
  | none => exact h
  | some bs =>
    obtain ⟨Mb, M, n, h1, h2, h3, h4⟩ := h
    refine ⟨Mb, M, n, h1, h2.keeps hk (fun hs => h3 (hS _ hs)), h3, fun nm y hy => ?_⟩
    obtain ⟨g1, b, o, cp, cl, cc, g2, g3, g4, g5⟩ := h4 nm y hy
    exact ⟨g1, b, o, cp, cl, cc, g2, g3, Nat.lt_of_lt_of_le g4 hk.size, g5.keeps hk (fun x hx hs => hA x hx (hS _ hs)) g4 (fun hs => hA b g3 (hS _ hs))⟩
theorem fl_szok {A : Nat → Prop} {Rb : Nat} {W : World} {kv : Value} {m : Option (List Bind)} (h : KnownS A Rb W kv m) {k : ByteArray} {n : Int} {t : ByteArray} {c : Fo} (hs : szok k t) : szok (fl m ⟨k, n, t, c⟩).k (fl m ⟨k, n, t, c⟩).t := by
  cases m with
  | none => exact hs
  | some bs =>
    obtain ⟨Mb, M, n', h1, h2, h3, h4⟩ := h
    simp only [fl, fill1]
    cases hv : varF k with
    | none => exact hs
    | some nm =>
      simp only
      cases hg : bget bs nm with
      | none => exact ⟨by show (0 : Nat) ≤ _; omega, by show (0 : Nat) ≤ _; omega⟩
      | some y =>
        obtain ⟨_, b, o, cp, cl, cc, _, _, _, g⟩ := h4 nm y hg
        exact g.size
/-- All names are known. -/
def AllIn (m : Option (List Bind)) (k : ByteArray) (n : Int) (t : ByteArray) (c : Fo) : Prop := match m with
  | none => True
  | some bs => ∀ x ∈ Nd.all ⟨k, n, t, c⟩, ∀ nm, varF x.k = some nm → (bget bs nm).isSome = true
def mes (m : Option (List Bind)) (c : Fo) : Nat := match m with
  | none => c.nodes
  | some _ => c.nodes + 2000
/-- One kid more; what changed ahead of it lies below. -/
theorem RowI.push' {D : Nat} {wr W2 Wp w3 : World} {S : Nat → Prop} {c : Fo} {j : Nat} {vp : Option Addr} {vl vc : Nat} {xs : List Value} {bs : List Nat} (hI : RowI D wr c j vp vl vc xs bs) (hDw : D ≤ wr.heap.size)
    {k1 : ByteArray} {n1 : Int} {t1 : ByteArray} {s1 r1 : Fo} {cp1 : Option Addr} {cl1 cc1 : Nat} {bs1 : List Nat} (hd : c.drop j = .cons k1 n1 t1 s1 r1) (ht1 : szok k1 t1)
    (ho : Own W2 s1 cp1 cl1 cc1 bs1) (hn : News W2 wr.heap.size bs1) (hk : Keeps S wr W2) (hS : ∀ b, S b → b < D) (hp : Keeps (fun _ => False) W2 Wp) {gg cap : Nat}
    (hrow : w3.ownsRow 0 T 4 (.slice (some ⟨gg, 0, none⟩) (j + 1) cap) (j + 1) (xs ++ [.string k1, .int .i64 n1, .string t1, .slice cp1 cl1 cc1]))
    (hg : Wp.grownBy w3 (Value.slice vp vl vc).ownBlock) (hat : (Value.slice vp vl vc).ownBlock = some gg ∨ gg = Wp.heap.size) (hlt : gg < w3.heap.size) :
    RowI D w3 c (j + 1) (some ⟨gg, 0, none⟩) (j + 1) cap (xs ++ [.string k1, .int .i64 n1, .string t1, .slice cp1 cl1 cc1]) (bs ++ bs1) ∧ Keeps (fun b => (Value.slice vp vl vc).ownBlock = some b) Wp w3 := by
  have h2 := hk.size
  have hp2 := hp.size
  have hsz3 := hg.size
  have hsb : ∀ x, (Value.slice vp vl vc).ownBlock = some x → x ∈ sb vp vl vc := fun x hx => by simp [sb, hx]
  have hnd := List.nodup_append.1 hI.news.nodup
  have hgg : D ≤ gg := by
    rcases hat with h | h
    · exact (hI.lo h).1
    · omega
  have hold : ∀ x, x < W2.heap.size → x ∉ sb vp vl vc → w3.heap[x]? = W2.heap[x]? := fun x hx hn1 => by
    rw [hg.block x (by omega) (fun e => hn1 (hsb _ e.symm)), hp.block x hx (fun h => h)]
  have hka : Keeps (fun b => (Value.slice vp vl vc).ownBlock = some b) Wp w3 := ⟨hg.os, hg.tape, hg.output, hg.size, fun x hx hn => hg.block x hx (fun e => hn e.symm)⟩
  refine ⟨⟨hrow, ?_, ?_⟩, hka⟩
  · rw [Fo.take_step hd]
    have hr2 : RowRep W2 (c.take j) xs bs := hI.rep.keeps hk (fun b hb => ⟨hI.news.hi b (List.mem_append.2 (.inr hb)), fun h => by have := hS b h; have := hI.news.lo b (List.mem_append.2 (.inr hb)); omega⟩)
    refine RowRep.snoc ht1 (ho.same fun b hb => ?_) (hr2.same fun b hb => ?_)
    · have h1 := hn.lo b hb
      refine hold b (hn.hi b hb) (fun h => ?_)
      have := hI.news.hi b (List.mem_append.2 (.inl h))
      omega
    · have h1 := hI.news.hi b (List.mem_append.2 (.inr hb))
      exact hold b (by omega) (fun h => hnd.2.2 b h b hb rfl)
  · have hmem : ∀ x, x ∈ bs ++ bs1 → D ≤ x ∧ x < W2.heap.size ∧ x ∉ sb vp vl vc := fun x hx => by
      rcases List.mem_append.1 hx with h | h
      · have h1 := hI.news.hi x (List.mem_append.2 (.inr h))
        exact ⟨hI.news.lo x (List.mem_append.2 (.inr h)), by omega, fun h' => hnd.2.2 x h' x h rfl⟩
      · have h1 := hn.lo x h
        exact ⟨by omega, hn.hi x h, fun h' => by have := hI.news.hi x (List.mem_append.2 (.inl h')); omega⟩
    have hsb2 : sb (some ⟨gg, 0, none⟩) (j + 1) cap = [gg] := rfl
    rw [hsb2]
    refine ⟨fun x hx => ?_, fun x hx => ?_, ?_⟩
    · rcases List.mem_append.1 hx with h | h
      · simp only [List.mem_singleton] at h; omega
      · exact (hmem x h).1
    · rcases List.mem_append.1 hx with h | h
      · simp only [List.mem_singleton] at h; omega
      · have := (hmem x h).2.1; omega
    · refine List.nodup_append.2 ⟨by simp, List.nodup_append.2 ⟨hnd.2.1, hn.nodup, fun a ha b hb e => ?_⟩, fun a ha b hb e => ?_⟩
      · have h1 := hI.news.hi a (List.mem_append.2 (.inr ha))
        have h3 := hn.lo b hb
        omega
      · simp only [List.mem_singleton] at ha
        have h1 := hmem b hb
        rcases hat with h | h
        · exact h1.2.2 (by rw [← e, ha]; exact hsb _ h)
        · omega
end Go.Proofs.Ytnphhibfiklfjaa

/-!
  What Fill looks at, in plain Lean.
-/
namespace Go.Proofs.Ytnphhibfiklfjaa

open Go.RowKit

def lack1 (bs : List Bind) (x : Nd) : Bool := match varF x.k with
  | some nm => (bget bs nm).isNone
  | none => false
def wrong1 (bs : List Bind) (x : Nd) : Bool := match varF x.k with
  | some nm => (match bget bs nm with
    | some y => !likeF x.n x.t y
    | none => false)
  | none => false
def lackB (bs : List Bind) (l : List Nd) : Bool := l.any (lack1 bs)
def wrongB (bs : List Bind) (l : List Nd) : Bool := l.any (wrong1 bs)
theorem nts_from {l : List Nd} (h : (vis fMay [] l).2 = true) (e : Note) : e ∈ nts l ↔ ∃ x ∈ l, varF x.k = some e.1 ∧ e.2 = (x.n, x.t) := by
  constructor
  · intro he
    have hnd := nts_nodup l
    have h1 : nget (nts l) e.1 = some e.2 := by
      have key : ∀ (L : List Note), (L.map (·.1)).Nodup → e ∈ L → nget L e.1 = some e.2 := by
        intro L
        induction L with
        | nil => intro _ h; simp at h
        | cons a r ih =>
          intro hn hm
          simp only [List.map_cons, List.nodup_cons] at hn
          unfold nget
          rw [List.find?_cons]
          rcases List.mem_cons.1 hm with rfl | hm
          · simp
          · have hne : a.1 ≠ e.1 := fun h => hn.1 (h ▸ List.mem_map.2 ⟨e, hm, rfl⟩)
            rw [show decide (a.1 = e.1) = false by simpa using hne]
            exact ih hn.2 hm
      exact key _ hnd he
    obtain ⟨x, hx, hv, hxe⟩ := nts_size h1
    exact ⟨x, hx, hv, hxe⟩
  · rintro ⟨x, hx, hv, hxe⟩
    have := nget_mem (may_facts l h x hx e.1 hv).2
    rw [← hxe] at this
    exact this
theorem wrongF_eq {bs : List Bind} {l : List Nd} (h : (vis fMay [] l).2 = true) : wrongF bs (nts l) = if lackB bs l then 3 else if wrongB bs l then 41 else 0 := by
  have h1 : (nts l).all (fun e => (bget bs e.1).isSome) = !lackB bs l := by
    rw [Bool.eq_iff_iff]
    simp only [List.all_eq_true, Bool.not_eq_true', lackB, List.any_eq_false]
    constructor
    · intro ha x hx
      unfold lack1
      cases hv : varF x.k with
      | none => simp
      | some nm =>
        have := ha (nm, (x.n, x.t)) ((nts_from h _).2 ⟨x, hx, hv, rfl⟩)
        simp only at this ⊢
        cases hb : bget bs nm with
        | none => rw [hb] at this; simp at this
        | some y => simp
    · intro ha e he
      obtain ⟨x, hx, hv, _⟩ := (nts_from h e).1 he
      have := ha x hx
      unfold lack1 at this
      rw [hv] at this
      simp only at this
      cases hb : bget bs e.1 with
      | none => rw [hb] at this; simp at this
      | some y => rfl
  have h2 : ((nts l).all (fun e => match bget bs e.1 with | some y => likeF e.2.1 e.2.2 y | none => true)) = !wrongB bs l := by
    rw [Bool.eq_iff_iff]
    simp only [List.all_eq_true, Bool.not_eq_true', wrongB, List.any_eq_false]
    constructor
    · intro ha x hx
      unfold wrong1
      cases hv : varF x.k with
      | none => simp
      | some nm =>
        have := ha (nm, (x.n, x.t)) ((nts_from h _).2 ⟨x, hx, hv, rfl⟩)
        simp only at this ⊢
        cases hb : bget bs nm with
        | none => simp
        | some y => rw [hb] at this; simp only at this ⊢; simp [this]
    · intro ha e he
      obtain ⟨x, hx, hv, hxe⟩ := (nts_from h e).1 he
      have := ha x hx
      unfold wrong1 at this
      rw [hv] at this
      simp only at this
      cases hb : bget bs e.1 with
      | none => rfl
      | some y =>
        rw [hb] at this
        simp only [hxe] at this ⊢
        simpa using this
  have h3 : wrongF bs (nts l) = if (!lackB bs l) = true then (if (!wrongB bs l) = true then 0 else 41) else 3 := by
    rw [← h1, ← h2]
    rfl
  rw [h3]
  cases lackB bs l <;> cases wrongB bs l <;> simp
/-- One argument. -/
def arg1 (acc : List Bind) (e : Bind) : Bool := !(bget acc e.1).isSome && wordB e.1.data.toList && decide (mayF e.2 = 0)
theorem argsF_cons (acc : List Bind) (e : Bind) (r : List Bind) : argsF acc (e :: r) = (arg1 acc e && argsF (acc ++ [e]) r) := by
  simp only [argsF, arg1]
  cases wordB e.1.data.toList <;> cases decide (mayF e.2 = 0) <;> cases (bget acc e.1).isSome <;> simp
theorem argsF_ok : ∀ (r acc : List Bind), argsF acc r = true → ∀ e ∈ r, wordB e.1.data.toList = true ∧ mayF e.2 = 0
  | [], _, _, e, he => by simp at he
  | a :: r, acc, h, e, he => by
    rw [argsF_cons, Bool.and_eq_true] at h
    rcases List.mem_cons.1 he with rfl | he
    · have := h.1
      simp only [arg1, Bool.and_eq_true, decide_eq_true_eq] at this
      exact ⟨this.1.2, this.2⟩
    · exact argsF_ok r _ h.2 e he
theorem lack_all {bs : List Bind} {k : ByteArray} {n : Int} {t : ByteArray} {c : Fo} (h : lackB bs (Nd.all ⟨k, n, t, c⟩) = false) : AllIn (some bs) k n t c := by
  intro x hx nm hv
  simp only [lackB, List.any_eq_false] at h
  have := h x hx
  unfold lack1 at this
  rw [hv] at this
  simp only at this
  cases hb : bget bs nm with
  | none => rw [hb] at this; simp at this
  | some y => rfl
end Go.Proofs.Ytnphhibfiklfjaa

/-!
  What Fits gives may be handed to Fill, in plain Lean.
-/
namespace Go.Proofs.Ytnphhibfiklfjaa

open Go.RowKit

theorem argsF_of : ∀ (r acc : List Bind), (∀ e ∈ r, wordB e.1.data.toList = true ∧ mayF e.2 = 0) → ((acc ++ r).map (·.1)).Nodup → argsF acc r = true
  | [], _, _, _ => rfl
  | e :: r, acc, h, hn => by
    rw [argsF_cons]
    have h1 := h e (List.mem_cons_self ..)
    have h2 : (bget acc e.1).isSome = false := by
      rw [Bool.eq_false_iff]
      intro hs
      have hm := bget_iff.1 hs
      rw [List.map_append, List.nodup_append] at hn
      exact hn.2.2 _ hm _ (by simp) rfl
    have h3 := argsF_of r (acc ++ [e]) (fun x hx => h x (List.mem_cons_of_mem _ hx)) (by simpa using hn)
    rw [h3]
    simp [arg1, h1.1, h1.2, h2]
/-- A list all of whose bounds are of a kind stays so. -/
theorem bindF_all {Q : ByteArray → Nd → Prop} {bs : List Bind} {nm : ByteArray} {n : Int} {t : ByteArray} {y : Nd} (h : ∀ e ∈ bs, Q e.1 e.2) (hq : likeF n t y = true → Q nm y) : ∀ e ∈ (bindF bs nm n t y).1, Q e.1 e.2 := by
  unfold bindF
  by_cases hl : likeF n t y = true
  · rw [if_pos hl]
    cases hb : bget bs nm with
    | none =>
      intro e he
      rcases List.mem_append.1 he with he | he
      · exact h e he
      · simp only [List.mem_singleton] at he
        subst he
        exact hq hl
    | some z => exact h
  · rw [if_neg hl]; exact h
theorem fitFo_all (P T : List Nd) : ∀ (f g : Fo) (bs : List Bind), (∀ x ∈ f.all, x ∈ P) → (∀ y ∈ g.all, y ∈ T) → (∀ e ∈ bs, e.2 ∈ T ∧ ∃ x ∈ P, varF x.k = some e.1 ∧ likeF x.n x.t e.2 = true) → ∀ e ∈ (fitFo f g bs).1, e.2 ∈ T ∧ ∃ x ∈ P, varF x.k = some e.1 ∧ likeF x.n x.t e.2 = true := by
  intro f
  induction f with
  | nil => intro g bs _ _ hb; cases g <;> exact hb
  | cons k n t c r ihc ihr =>
    intro g bs hf hg hb
    cases g with
    | nil => exact hb
    | cons k' n' t' c' r' =>
      have hone : ∀ e ∈ (fit1 k n t c ⟨k', n', t', c'⟩ bs).1, e.2 ∈ T ∧ ∃ x ∈ P, varF x.k = some e.1 ∧ likeF x.n x.t e.2 = true := by
        unfold fit1
        cases hv : varF k with
        | some nm => exact bindF_all (Q := fun a y => y ∈ T ∧ ∃ x ∈ P, varF x.k = some a ∧ likeF x.n x.t y = true) hb (fun hl => ⟨hg _ (by simp [Fo.all]), ⟨k, n, t, c⟩, hf _ (by simp [Fo.all]), hv, hl⟩)
        | none =>
          simp only
          split
          · exact ihc c' bs (fun x hx => hf x (by simp [Fo.all, hx])) (fun x hx => hg x (by simp [Fo.all, hx])) hb
          · exact hb
      rw [fitFo_cons]
      split
      · exact ihr r' _ (fun x hx => hf x (by simp [Fo.all, hx])) (fun x hx => hg x (by simp [Fo.all, hx])) hone
      · exact hone
/-- The parts of a tree. -/
theorem Fo.part : ∀ (f : Fo), ∀ y ∈ f.all, y.nodes ≤ f.nodes ∧ y.depth ≤ f.depth ∧ y.bytes ≤ f.bytes ∧ ∀ k ∈ y.k :: y.c.kinds, k ∈ f.kinds := by
  intro f
  induction f with
  | nil => intro y hy; simp [Fo.all] at hy
  | cons k n t c r ihc ihr =>
    intro y hy
    simp only [Fo.all, List.mem_cons, List.mem_append] at hy
    rcases hy with rfl | hy | hy
    · refine ⟨?_, ?_, ?_, ?_⟩
      · simp only [Nd.nodes, Fo.nodes]; omega
      · simp only [Nd.depth, Fo.depth]; omega
      · simp only [Nd.bytes, Fo.bytes]; omega
      · intro a ha
        simp only [Fo.kinds, List.mem_append]
        exact .inl ha
    · obtain ⟨h1, h2, h3, h4⟩ := ihc y hy
      refine ⟨?_, ?_, ?_, ?_⟩
      · simp only [Fo.nodes]; omega
      · simp only [Fo.depth]; omega
      · simp only [Fo.bytes]; omega
      · intro a ha
        simp only [Fo.kinds, List.mem_append, List.mem_cons]
        exact .inl (.inr (h4 a ha))
    · obtain ⟨h1, h2, h3, h4⟩ := ihr y hy
      refine ⟨?_, ?_, ?_, ?_⟩
      · simp only [Fo.nodes]; omega
      · simp only [Fo.depth]; omega
      · simp only [Fo.bytes]; omega
      · intro a ha
        simp only [Fo.kinds, List.mem_append]
        exact .inr (h4 a ha)
theorem mayF_part {x : Nd} (h : mayF x = 0) : ∀ y ∈ x.all, mayF y = 0 := by
  intro y hy
  have hsm := mayF_small h
  have hnm : x.named = true := by
    unfold mayF at h
    rw [if_pos hsm] at h
    by_cases hn : x.named = true
    · exact hn
    · rw [if_neg hn] at h; simp at h
  simp only [Nd.all, List.mem_cons] at hy
  rcases hy with rfl | hy
  · exact h
  · obtain ⟨h1, h2, h3, h4⟩ := Fo.part x.c y hy
    obtain ⟨g1, g2, g3⟩ := hsm
    have hs : y.small := by
      refine ⟨?_, ?_, ?_⟩
      · simp only [Nd.nodes] at g1 ⊢; simp only [Nd.nodes] at h1; omega
      · simp only [Nd.depth] at g2 ⊢; simp only [Nd.depth] at h2; omega
      · simp only [Nd.bytes] at g3 ⊢; simp only [Nd.bytes] at h3; omega
    have hn : y.named = true := by
      unfold Nd.named namedL at hnm ⊢
      rw [List.all_eq_true] at hnm ⊢
      exact fun a ha => hnm a (List.mem_cons_of_mem _ (h4 a ha))
    unfold mayF
    rw [if_pos hs, if_pos hn]
theorem fit1_all {p t : Nd} : ∀ e ∈ (fit1 p.k p.n p.t p.c t []).1, e.2 ∈ t.all ∧ ∃ x ∈ p.all, varF x.k = some e.1 ∧ likeF x.n x.t e.2 = true := by
  unfold fit1
  cases hv : varF p.k with
  | some nm => exact bindF_all (Q := fun a y => y ∈ t.all ∧ ∃ x ∈ p.all, varF x.k = some a ∧ likeF x.n x.t y = true) (fun e he => by simp at he) (fun hl => ⟨by simp [Nd.all], p, by simp [Nd.all], hv, hl⟩)
  | none =>
    simp only
    split
    · exact fitFo_all p.all t.all p.c t.c [] (fun x hx => by simp [Nd.all, hx]) (fun x hx => by simp [Nd.all, hx]) (fun e he => by simp at he)
    · intro e he; simp at he
/-- What a tree is told to fit with makes the tree again. -/
theorem fits_fill {p t : Nd} {bs : List Bind} (h : fitsF p t = some bs) : fillF p bs = (t, 0) ∧ pmayF p = 0 := by
  unfold fitsF at h
  split at h
  · rename_i hh
    obtain ⟨hp, ht, hf⟩ := hh
    simp only [Option.some.injEq] at h
    subst h
    have hpo := patOK_of hp
    have hvis := (pmayF_zero hp).2
    have hnm := fit1_names hpo hf
    have hall := fit1_all (p := p) (t := t)
    have hargs : argsF [] (fit1 p.k p.n p.t p.c t []).1 = true := by
      refine argsF_of _ _ (fun e he => ⟨(nts_word (l := p.all) (by rw [← hnm]; exact List.mem_map.2 ⟨e, he, rfl⟩)).1, mayF_part ht _ (hall e he).1⟩) ?_
      rw [List.nil_append, hnm]
      exact nts_nodup _
    have hw : wrongF (fit1 p.k p.n p.t p.c t []).1 (nts p.all) = 0 := by
      unfold wrongF
      rw [if_pos, if_pos]
      · rw [List.all_eq_true]
        intro e he
        cases hb : bget (fit1 p.k p.n p.t p.c t []).1 e.1 with
        | none => rfl
        | some y =>
          obtain ⟨x, hx, hv, hxe⟩ := (nts_from hvis e).1 he
          obtain ⟨_, x', hx', hv', hl⟩ := hall _ (bget_some hb).2
          obtain ⟨e1, e2⟩ := hpo.same x hx x' hx' e.1 hv hv'
          simp only [hxe]
          rw [e1, e2]; exact hl
      · rw [List.all_eq_true]
        intro e he
        exact bget_iff.2 (by rw [hnm]; exact List.mem_map.2 ⟨e, he, rfl⟩)
    refine ⟨?_, hp⟩
    unfold fillF
    rw [if_pos hp, if_pos hargs, if_pos hw, fit1_fill hf, if_pos (mayF_small ht)]
  · simp at h
end Go.Proofs.Ytnphhibfiklfjaa

/-!
  What a pattern is filled with is what the tree that comes fits with, in plain Lean.
-/
namespace Go.Proofs.Ytnphhibfiklfjaa

open Go.RowKit

theorem bindF_ok {bs acc : List Bind} {nm : ByteArray} {n : Int} {t : ByteArray} {y : Nd} (hb : bget bs nm = some y) (hl : likeF n t y = true) (he : Ext acc bs) : (bindF acc nm n t y).2 = true ∧ Ext (bindF acc nm n t y).1 bs := by
  unfold bindF
  rw [if_pos hl]
  cases hg : bget acc nm with
  | none =>
    refine ⟨rfl, fun a w hw => ?_⟩
    by_cases ha : a = nm
    · subst ha
      rw [bget_last hg] at hw
      rw [hb]; exact hw
    · refine he a w ?_
      unfold bget at hw ⊢
      rw [List.find?_append] at hw
      cases hf : acc.find? (fun e => decide (e.1 = a)) with
      | none =>
        rw [hf] at hw
        simp only [Option.none_or] at hw
        rw [List.find?_cons, show decide ((nm, y).1 = a) = false by simpa using fun h => ha h.symm] at hw
        simp at hw
      | some e => rw [hf] at hw; simpa using hw
  | some z =>
    have := he nm z hg
    rw [hb] at this
    simp only [Option.some.injEq] at this
    subst this
    exact ⟨by simp [eqN], he⟩
theorem fillFo_fit {bs : List Bind} {P : List Nd} (hlike : ∀ x ∈ P, ∀ nm, varF x.k = some nm → ∃ y, bget bs nm = some y ∧ likeF x.n x.t y = true) : ∀ (f : Fo) (acc : List Bind), (∀ x ∈ f.all, x ∈ P) → Ext acc bs → (fitFo f (fillFo bs f) acc).2 = true ∧ Ext (fitFo f (fillFo bs f) acc).1 bs := by
  intro f
  induction f with
  | nil => intro acc _ he; exact ⟨rfl, he⟩
  | cons k n t c r ihc ihr =>
    intro acc hP he
    have hone : (fit1 k n t c (fill1 bs ⟨k, n, t, c⟩) acc).2 = true ∧ Ext (fit1 k n t c (fill1 bs ⟨k, n, t, c⟩) acc).1 bs := by
      unfold fit1
      cases hv : varF k with
      | some nm =>
        obtain ⟨y, hb, hl⟩ := hlike ⟨k, n, t, c⟩ (hP _ (by simp [Fo.all])) nm hv
        have hf : fill1 bs ⟨k, n, t, c⟩ = y := by unfold fill1; simp only [hv, hb, Option.getD_some]
        rw [hf]
        exact bindF_ok hb hl he
      | none =>
        have hf : fill1 bs ⟨k, n, t, c⟩ = ⟨k, n, t, fillFo bs c⟩ := by unfold fill1; simp only [hv]
        rw [hf]
        simp only
        rw [if_pos ⟨trivial, trivial, trivial, (fillFo_len bs c).symm⟩]
        exact ihc acc (fun x hx => hP x (by simp [Fo.all, hx])) he
    rw [fillFo_cons, fitFo_cons]
    rw [if_pos hone.1]
    exact ihr _ (fun x hx => hP x (by simp [Fo.all, hx])) hone.2
theorem fillFo_kinds {bs : List Bind} {Q : ByteArray → Prop} (hb : ∀ nm y, bget bs nm = some y → ∀ k ∈ y.k :: y.c.kinds, Q k) : ∀ (f : Fo), (∀ x ∈ f.all, ∀ nm, varF x.k = some nm → (bget bs nm).isSome = true) → (∀ k ∈ f.kinds, Q k) → ∀ k ∈ (fillFo bs f).kinds, Q k := by
  intro f
  induction f with
  | nil => intro _ _ k hk; simp [fillFo, Fo.kinds] at hk
  | cons k n t c r ihc ihr =>
    intro hv hq a ha
    rw [fillFo_cons] at ha
    simp only [Fo.kinds, List.mem_append] at ha
    rcases ha with ha | ha
    · unfold fill1 at ha
      cases hvk : varF k with
      | some nm =>
        have hs := hv ⟨k, n, t, c⟩ (by simp [Fo.all]) nm hvk
        obtain ⟨y, hy⟩ := Option.isSome_iff_exists.1 hs
        simp only [hvk, hy, Option.getD_some] at ha
        exact hb nm y hy a ha
      | none =>
        simp only [hvk] at ha
        rcases List.mem_cons.1 ha with rfl | ha
        · exact hq _ (by simp [Fo.kinds])
        · exact ihc (fun x hx => hv x (by simp [Fo.all, hx])) (fun k' hk' => hq k' (by simp [Fo.kinds, hk'])) a ha
    · exact ihr (fun x hx => hv x (by simp [Fo.all, hx])) (fun k' hk' => hq k' (by simp [Fo.kinds, hk'])) a ha
end Go.Proofs.Ytnphhibfiklfjaa

/-!
  MatchBack: its plain law, second half.
-/
namespace Go.Proofs.Ytnphhibfiklfjaa

open Go.RowKit

theorem named_of {x : Nd} (h : mayF x = 0) : namedL (x.k :: x.c.kinds) = true := by
  unfold mayF at h
  rw [if_pos (mayF_small h)] at h
  by_cases hn : x.named = true
  · exact hn
  · rw [if_neg hn] at h; simp at h
/-- What a pattern is filled with is what the tree that comes fits with. -/
theorem fill_fits {p u : Nd} {bs : List Bind} (h : fillF p bs = (u, 0)) : ∃ m, fitsF p u = some m ∧ m.map (·.1) = namesF p ∧ ∀ e ∈ m, e ∈ bs := by
  unfold fillF at h
  by_cases hp : pmayF p = 0
  · rw [if_pos hp] at h
    by_cases ha : argsF [] bs = true
    · rw [if_pos ha] at h
      by_cases hw : wrongF bs (nts p.all) = 0
      · rw [if_pos hw] at h
        by_cases hs : (fill1 bs p).small
        · rw [if_pos hs] at h
          simp only [Prod.mk.injEq, and_true] at h
          subst h
          have hpo := patOK_of hp
          have hvis := (pmayF_zero hp).2
          have hpm := (pmayF_zero hp).1
          have hlike : ∀ x ∈ p.all, ∀ nm, varF x.k = some nm → ∃ y, bget bs nm = some y ∧ likeF x.n x.t y = true := by
            intro x hx nm hv
            rw [wrongF_eq hvis] at hw
            have h1 : lackB bs p.all = false := by cases hl : lackB bs p.all with
              | false => rfl
              | true => rw [hl] at hw; simp at hw
            have h2 : wrongB bs p.all = false := by cases hl : wrongB bs p.all with
              | false => rfl
              | true => rw [h1, hl] at hw; simp at hw
            have h3 := List.any_eq_false.1 h1 x hx
            have h4 := List.any_eq_false.1 h2 x hx
            unfold lack1 at h3
            unfold wrong1 at h4
            rw [hv] at h3 h4
            simp only at h3 h4
            cases hb : bget bs nm with
            | none => rw [hb] at h3; simp at h3
            | some y => rw [hb] at h4; exact ⟨y, rfl, by simpa using h4⟩
          have hbok : ∀ nm y, bget bs nm = some y → ∀ k ∈ y.k :: y.c.kinds, kindB k.data.toList = true := fun nm y hy => by
            have h1 := (argsF_ok bs [] ha (nm, y) (bget_some hy).2).2
            exact List.all_eq_true.1 (named_of h1)
          have hpk := List.all_eq_true.1 (named_of hpm)
          have hfit : (fit1 p.k p.n p.t p.c (fill1 bs p) []).2 = true ∧ Ext (fit1 p.k p.n p.t p.c (fill1 bs p) []).1 bs := by
            have hE : Ext [] bs := fun nm y hy => by simp [bget] at hy
            unfold fit1
            cases hv : varF p.k with
            | some nm =>
              obtain ⟨y, hb, hl⟩ := hlike p (by simp [Nd.all]) nm hv
              have hf : fill1 bs p = y := by unfold fill1; simp only [hv, hb, Option.getD_some]
              rw [hf]
              exact bindF_ok hb hl hE
            | none =>
              have hf : fill1 bs p = ⟨p.k, p.n, p.t, fillFo bs p.c⟩ := by unfold fill1; simp only [hv]
              rw [hf]
              simp only
              rw [if_pos ⟨trivial, trivial, trivial, (fillFo_len bs p.c).symm⟩]
              exact fillFo_fit hlike p.c [] (fun x hx => by simp [Nd.all, hx]) hE
          have hnm : (fill1 bs p).named = true := by
            unfold Nd.named namedL
            rw [List.all_eq_true]
            unfold fill1
            cases hv : varF p.k with
            | some nm =>
              obtain ⟨y, hb, _⟩ := hlike p (by simp [Nd.all]) nm hv
              simp only [hb, Option.getD_some]
              exact hbok nm y hb
            | none =>
              intro k hk
              simp only at hk
              rcases List.mem_cons.1 hk with rfl | hk
              · exact hpk _ (List.mem_cons_self ..)
              · exact fillFo_kinds (Q := fun k => kindB k.data.toList = true) hbok p.c (fun x hx nm hv => by obtain ⟨y, hy, _⟩ := hlike x (by simp [Nd.all, hx]) nm hv; rw [hy]; rfl) (fun k hk => hpk k (List.mem_cons_of_mem _ hk)) k hk
          have hmu : mayF (fill1 bs p) = 0 := by unfold mayF; rw [if_pos hs, if_pos hnm]
          have hn := fit1_names hpo hfit.1
          refine ⟨(fit1 p.k p.n p.t p.c (fill1 bs p) []).1, by unfold fitsF; rw [if_pos ⟨hp, hmu, hfit.1⟩], by rw [hn]; unfold namesF; rw [if_pos hp], fun e he => ?_⟩
          obtain ⟨i, hi⟩ := List.getElem?_of_mem he
          have hb := bget_at (by rw [hn]; exact nts_nodup _) (nm := e.1) (y := e.2) hi
          exact (bget_some (hfit.2 e.1 e.2 hb)).2
        · rw [if_neg hs] at h; simp at h
      · rw [if_neg hw] at h
        simp only [Prod.mk.injEq] at h
        exact absurd h.2 hw
    · rw [if_neg ha] at h; simp at h
  · rw [if_neg hp] at h
    simp only [Prod.mk.injEq] at h
    exact absurd h.2 hp
end Go.Proofs.Ytnphhibfiklfjaa

/-!
  MatchBack: Find tells just the places whose trees fit, in plain Lean.
-/
namespace Go.Proofs.Ytnphhibfiklfjaa

open Go.RowKit

theorem preK_part : ∀ (f : Fo) (p : List Int) (i : Nat), ∀ e ∈ preK p i f, e.2 ∈ f.all := by
  intro f
  induction f with
  | nil => intro p i e he; simp [preK] at he
  | cons k n t c r ihc ihr =>
    intro p i e he
    rw [preK_cons] at he
    simp only [pre, List.cons_append, List.mem_cons, List.mem_append] at he
    simp only [Fo.all, List.mem_cons, List.mem_append]
    rcases he with rfl | he | he
    · exact .inl rfl
    · exact .inr (.inl (ihc _ _ e he))
    · exact .inr (.inr (ihr _ _ e he))
theorem pre_part {p : List Int} {x : Nd} : ∀ e ∈ pre p x, e.2 ∈ x.all := by
  intro e he
  simp only [pre, List.mem_cons] at he
  simp only [Nd.all, List.mem_cons]
  rcases he with rfl | he
  · exact .inl rfl
  · exact .inr (preK_part _ _ _ e he)
theorem findF_fits {p t : Nd} (ht : mayF t = 0) (hp : pmayF p = 0) : findF p t = ((pre [] t).filter (fun e => (fitsF p e.2).isSome)).map (·.1) := by
  unfold findF
  rw [if_pos ⟨hp, ht⟩]
  congr 1
  refine List.filter_congr fun e he => ?_
  have hm := mayF_part ht _ (pre_part e he)
  unfold fitsF
  by_cases h : (fit1 p.k p.n p.t p.c e.2 []).2 = true
  · rw [if_pos ⟨hp, hm, h⟩, h]; rfl
  · rw [if_neg (fun hh => h hh.2.2)]
    simpa using h
end Go.Proofs.Ytnphhibfiklfjaa

/-!
  match.Fits: its walk.
-/
namespace Go.Proofs.Ytnphhibfiklfjaa

open Go.RowKit

/-- What Fits gives. -/
noncomputable def fitsB (p t : Nd) : List Bind := (fitsF p t).getD []
end Go.Proofs.Ytnphhibfiklfjaa

/-!
  match.Find: a list of paths built one by one.
-/
namespace Go.Proofs.Ytnphhibfiklfjaa

open Go.RowKit

/-- A list of lists grown by one. -/
theorem Lists.push {D te e s : Nat} {W Wq W3 : World} {lp : Option Addr} {ll lc : Nat} {vs : List Value} {cs : List (Nat × List Value)} (h : Lists D te e s W (.slice lp ll lc) vs cs) (hte : te ≠ e) (hD : D ≤ W.heap.size) {v : Value} {c : Nat × List Value} {gg cap B : Nat}
    (hk : Keeps (fun _ => False) W Wq) (hr : Wq.ownsRow B e s v c.1 c.2) (hat : ∀ b, v.ownBlock = some b → W.heap.size ≤ b)
    (hrow : W3.ownsRow D te 1 (.slice (some ⟨gg, 0, none⟩) (vs.length + 1) cap) (vs.length + 1) (vs ++ [v])) (hg : Wq.grownBy W3 (Value.slice lp ll lc).ownBlock) :
    Lists D te e s W3 (.slice (some ⟨gg, 0, none⟩) (vs.length + 1) cap) (vs ++ [v]) (cs ++ [c]) := by
  have hget : ∀ (i : Nat) (u : Value), (vs ++ [v])[i]? = some u → (i < vs.length ∧ vs[i]? = some u) ∨ (i = vs.length ∧ u = v) := fun i u hu => by
    by_cases hi : i < vs.length
    · rw [List.getElem?_append_left hi] at hu
      exact .inl ⟨hi, hu⟩
    · have hi2 := (List.getElem?_eq_some_iff.1 hu).1
      have hi3 : i = vs.length := by simp at hi2; omega
      subst hi3
      rw [List.getElem?_append_right (Nat.le_refl _), Nat.sub_self] at hu
      exact .inr ⟨rfl, by simpa using hu.symm⟩
  have hold : ∀ (i : Nat) (u : Value) (b : Nat), vs[i]? = some u → u.ownBlock = some b → b < W.heap.size ∧ W3.heap[b]? = W.heap[b]? := fun i u b hu hb => by
    have h1 := h.lo (.inr ⟨u, List.mem_of_getElem? hu, hb⟩)
    refine ⟨h1.2, ?_⟩
    rw [hg.block b (Nat.lt_of_lt_of_le h1.2 hk.size) (fun e => h.ne_row hte hu hb e.symm), hk.block b h1.2 (fun h => h)]
  have hnew : ∀ b, v.ownBlock = some b → W3.heap[b]? = Wq.heap[b]? := fun b hb =>
    hg.block b (hr.lt b hb).2 (fun e => by have h1 := (h.row.lt b e.symm).2; have h2 := hat b hb; omega)
  refine ⟨by simpa using hrow, by simp [h.len], fun i u d hu hd => ?_, fun i j u u' b hu hu' hb hb' => ?_⟩
  · rcases hget i u hu with ⟨hi, hu⟩ | ⟨rfl, rfl⟩
    · rw [List.getElem?_append_left (by rw [h.len]; exact hi)] at hd
      exact ownsRow_same (h.rows i u d hu hd) (fun b hm => (hold i u b hu (by simpa using hm)).2)
    · rw [List.getElem?_append_right (by rw [h.len]; exact Nat.le_refl _), h.len, Nat.sub_self] at hd
      simp only [List.getElem?_cons_zero, Option.some.injEq] at hd
      subst hd
      have h1 := ownsRow_same hr (fun b hm => hnew b (by simpa using hm))
      exact ⟨h1.1, h1.2.imp id (fun ⟨g, cap, cur, a, _, z⟩ => ⟨g, cap, cur, a, Nat.le_trans hD (hat g (by rw [a]; rfl)), z⟩)⟩
  · rcases hget i u hu with ⟨hi, h1⟩ | ⟨rfl, rfl⟩
    · rcases hget j u' hu' with ⟨hj, h2⟩ | ⟨rfl, rfl⟩
      · exact h.apart i j u u' b h1 h2 hb hb'
      · have := (hold i u b h1 hb).1; have := hat b hb'; omega
    · rcases hget j u' hu' with ⟨hj, h2⟩ | ⟨rfl, rfl⟩
      · have := (hold j u' b h2 hb').1; have := hat b hb; omega
      · rfl
abbrev TI : TypeId := 32
/-- A list of paths in memory. -/
def PathsI (D : Nat) (W : World) (L : List (List Int)) (lp : Option Addr) (ll lc : Nat) (vs : List Value) : Prop :=
  Lists D TI 3 1 W (.slice lp ll lc) vs (L.map fun p => (p.length, p.map vint))
theorem PathsI.start (D : Nat) (W : World) : PathsI D W [] none 0 0 [] := ⟨World.ownsRow_nil _ _ _ _, rfl, fun i v c h => by simp at h, fun i j v v' b h => by simp at h⟩
theorem PathsI.len {D : Nat} {W : World} {L : List (List Int)} {lp : Option Addr} {ll lc : Nat} {vs : List Value} (h : PathsI D W L lp ll lc vs) : vs.length = L.length := by have := Lists.len h; simpa using this.symm
/-- The paths at which it fits. -/
noncomputable def fndF (p : Nd) (path : List Int) (x : Nd) : List (List Int) := ((pre path x).filter (fun e => (fit1 p.k p.n p.t p.c e.2 []).2)).map (·.1)
noncomputable def fndK (p : Nd) (path : List Int) (i : Nat) (c : Fo) : List (List Int) := ((preK path i c).filter (fun e => (fit1 p.k p.n p.t p.c e.2 []).2)).map (·.1)
noncomputable def fnd1 (p : Nd) (path : List Int) (x : Nd) : List (List Int) := if (fit1 p.k p.n p.t p.c x []).2 then [path] else []
theorem fnd1_len (p : Nd) (path : List Int) (x : Nd) : (fnd1 p path x).length ≤ 1 := by
  unfold fnd1
  split <;> simp
theorem fndF_eq (p : Nd) (path : List Int) (x : Nd) : fndF p path x = fnd1 p path x ++ fndK p path 0 x.c := by
  unfold fndF fnd1 fndK pre
  rw [List.filter_cons]
  split <;> simp
theorem fndK_cons (p : Nd) (path : List Int) (i : Nat) (k n t c r) : fndK p path i (.cons k n t c r) = fndF p (path ++ [(i : Int)]) ⟨k, n, t, c⟩ ++ fndK p path (i + 1) r := by
  unfold fndK fndF
  rw [preK_cons, List.filter_append, List.map_append]
theorem fndF_len (p : Nd) (path : List Int) (x : Nd) : (fndF p path x).length ≤ x.c.nodes + 1 := by
  unfold fndF
  rw [List.length_map]
  exact Nat.le_trans (List.length_filter_le _ _) (by rw [pre_len]; exact Nat.le_refl _)
theorem fndK_len (p : Nd) (path : List Int) (i : Nat) (c : Fo) : (fndK p path i c).length ≤ c.nodes := by
  unfold fndK
  rw [List.length_map]
  exact Nat.le_trans (List.length_filter_le _ _) (by rw [preK_len]; exact Nat.le_refl _)
/-! ### 'append(make([]int, 0, len(p)), p...)' -/

theorem run_fill {P : Program} (w : World) (t ty : TypeId) (i : TypeInfo) (z : Value) (ht : P.underlying t = some (.slice 3)) (hi : P.info? 3 = some i) (hz : i.zero = some z) (hs1 : i.size = 1) (hb8 : i.bytes = 8) (hzs : z.cells.size = 1)
    {A : Nat → Prop} {xs : List Int} {pp : Option Addr} {pl : Nat} (pc : Nat) (h : Ints w A xs pp pl) (hl : pl ≤ 17592186044416) {g n B : Nat} (hown : w.ownsRow B 3 1 (.slice (some ⟨g, 0, none⟩) 0 n) 0 []) (hB : B ≤ w.heap.size) :
    ∃ v' w', (Builtin.append_ #[t, t] ty #[.slice (some ⟨g, 0, none⟩) 0 n, .slice pp pl pc]).run P w = .ok v' w' ∧ w'.ownsRow B 3 1 v' xs.length (xs.map vint) ∧ Keeps (fun b => b = g) w w' := by
  have hlen := h.len
  have hgr : ∀ w', w.grownBy w' (Value.slice (some ⟨g, 0, none⟩) 0 n).ownBlock → Keeps (fun b => b = g) w w' := fun w' hg => (Keeps.refl (fun b => b = g) w).grown hg (fun k hk _ => (Option.some.inj hk).symm)
  by_cases h0 : pl = 0
  · subst h0
    have hxs : xs = [] := List.eq_nil_of_length_eq_zero hlen
    subst hxs
    rcases pp with _ | ad
    · refine ⟨.slice (some ⟨g, 0, none⟩) 0 n, w, ?_, hown, Keeps.refl _ _⟩
      simp [Builtin.append_, run_underlying ht, sizeOf, typeInfo, hi, Builtin.lenOf, Builtin.firstCells, storeCells]
    · obtain ⟨v', w', hr, h2, h3, h4, _⟩ := run_append_own_at (P := P) w B t ty 3 i z 1 8 ht hi hz hs1 hb8 hzs (by omega) _ 0 [] hown ad 0 pc [] (by simp) (by simp) (by simp) (by simp [maxLen]) (by omega) hB
      exact ⟨_, w', hr, h2, hgr _ h3⟩
  · obtain ⟨b, o, rfl, _, _, hc⟩ := h.cells (by omega)
    have hnews : ∀ j u, (xs.map vint)[j]? = some u → w.cell? ((⟨b, o, none⟩ : Addr).add j) = some u := by
      intro j u hu
      have hj : j < xs.length := by
        rcases Nat.lt_or_ge j xs.length with hh | hh
        · exact hh
        · rw [List.getElem?_eq_none (by simpa using hh)] at hu; simp at hu
      rw [WideShapes.add_plain]
      have := hc j (by omega)
      rw [this]
      simpa [List.getD_eq_getElem?_getD, List.getElem?_eq_getElem hj] using hu
    obtain ⟨v', w', hr, h2, h3, h4, _⟩ := run_append_own_at (P := P) w B t ty 3 i z 1 8 ht hi hz hs1 hb8 hzs (by omega) _ 0 [] hown ⟨b, o, none⟩ pl pc (xs.map vint) (by simp [hlen]) hnews (by simp [Value.oneCell']) (by unfold maxLen; omega) (by omega) hB
    simp only [Nat.zero_add, List.nil_append] at h2
    refine ⟨v', w', hr, ?_, hgr _ h3⟩
    rw [hlen]
    exact h2
/-- make([]int, 0, len(p)) and the append to it, in one. -/
theorem step_mk {P : Program} {ops : Array Oper} {o : Oper} {a : Act} {w : World} {K : Act → World → Prop} {Q : Exit → Act → World → Prop} {E : Prop} (hgd : o.guard = none) (l c : Operand) (t : TypeId) (ho : o.op = Op.makeSlice t l c)
    (i : TypeInfo) (z : Value) (ht : P.underlying t = some (.slice 3)) (hi : P.info? 3 = some i) (hz : i.zero = some z) (hs1 : i.size = 1) (hb8 : i.bytes = 8) (n : Nat) (hl : a.eval l = .int .i64 0) (hc : a.eval c = .int .i64 (n : Int)) (hn : n ≤ 17592186044416) (B : Nat) (hB : B ≤ w.heap.size)
    (h : ∀ w', w'.ownsRow B 3 1 (.slice (some ⟨w.heap.size, 0, none⟩) 0 n) 0 [] → Keeps (fun _ => False) w w' → K (a.put o.dst (.slice (some ⟨w.heap.size, 0, none⟩) 0 n)) w') :
    if Region.wanted o (yielded ops a.tmps) = true then Oper.wp P o a w K Q else E := by
  have hw : Region.wanted o (yielded ops a.tmps) = true := by simp [Region.wanted, hgd]
  rw [if_pos hw]
  obtain ⟨w', hrun, r1, r2⟩ := run_make_own (P := P) w B t 3 i z 1 ht hi hz hs1 .i64 .i64 n (by rw [hb8]; omega) (by unfold maxLen; omega) hB
  unfold Oper.wp
  simp [execOp, ho, hl, hc, hrun, Result.andThen]
  exact h w' r1 ((Keeps.refl _ w).grown r2 (fun k hk => by cases hk))
theorem step_fill {P : Program} {ops : Array Oper} {o : Oper} {a : Act} {w : World} {K : Act → World → Prop} {Q : Exit → Act → World → Prop} {E : Prop} (hgd : o.guard = none) (s x : Operand) (t : TypeId)
    (ho : o.op = .call { callee := .builtin .append, args := #[s, x], argTypes := #[t, t] }) (i : TypeInfo) (z : Value) (ht : P.underlying t = some (.slice 3)) (hi : P.info? 3 = some i) (hz : i.zero = some z) (hs1 : i.size = 1) (hb8 : i.bytes = 8) (hzs : z.cells.size = 1)
    {g n B : Nat} (hs : a.eval s = .slice (some ⟨g, 0, none⟩) 0 n) {A : Nat → Prop} {xs : List Int} {pp : Option Addr} {pl : Nat} (pc : Nat) (hx : a.eval x = .slice pp pl pc) (hr : Ints w A xs pp pl) (hl : pl ≤ 17592186044416) (hown : w.ownsRow B 3 1 (.slice (some ⟨g, 0, none⟩) 0 n) 0 []) (hB : B ≤ w.heap.size)
    (h : ∀ v' w', w'.ownsRow B 3 1 v' xs.length (xs.map vint) → Keeps (fun b => b = g) w w' → K (a.put o.dst v') w') :
    if Region.wanted o (yielded ops a.tmps) = true then Oper.wp P o a w K Q else E := by
  have hw : Region.wanted o (yielded ops a.tmps) = true := by simp [Region.wanted, hgd]
  rw [if_pos hw]
  obtain ⟨v', w', hrun, h1, h2⟩ := run_fill (P := P) w t o.type i z ht hi hz hs1 hb8 hzs pc hr hl hown hB
  unfold Oper.wp execOp
  simp only [ho, resolve, invoke, builtin, Sem.run_bind, Sem.run_pure, Result.andThen_ok, List.map_toArray, List.map_cons, List.map_nil, hs, hx, hrun]
  exact h v' w' h1 h2
/-- 'append(p[:len(p):len(p)], j)': always anew. -/
theorem step_capped {P : Program} {ops : Array Oper} {o : Oper} {a : Act} {w : World} {K : Act → World → Prop} {Q : Exit → Act → World → Prop} {E : Prop} (hgd : o.guard = none) (s x : Operand) (t : TypeId)
    (ho : o.op = .call { callee := .builtin .append, args := #[s, x], argTypes := #[t, t] }) (i : TypeInfo) (z : Value) (ht : P.underlying t = some (.slice 3)) (hi : P.info? 3 = some i) (hz : i.zero = some z) (hs1 : i.size = 1) (hb8 : i.bytes = 8) (hzs : z.cells.size = 1)
    (xs : List Int) (hl : xs.length ≤ 100000) (pp : Option Addr) (pc : Nat) (hs : a.eval s = .slice pp xs.length xs.length) (hr : Row w (.slice pp xs.length pc) xs) (j : Int) (B : Nat) (hx : a.eval x = .slice (some ⟨B, 0, none⟩) 1 1) (hB : w.heap[B]? = some (.cells #[vint j] 3 (0, 0)))
    (h : ∀ g cap w', Row w' (.slice (some ⟨g, 0, none⟩) (xs.length + 1) cap) (xs ++ [j]) → g < w'.heap.size → w.heap.size ≤ g → Keeps (fun _ => False) w w' → K (a.put o.dst (.slice (some ⟨g, 0, none⟩) (xs.length + 1) cap)) w') :
    if Region.wanted o (yielded ops a.tmps) = true then Oper.wp P o a w K Q else E := by
  have hw : Region.wanted o (yielded ops a.tmps) = true := by simp [Region.wanted, hgd]
  rw [if_pos hw]
  have hnews : ∀ (k : Nat) (u : Value), [vint j][k]? = some u → w.cell? ((⟨B, 0, none⟩ : Addr).add k) = some u := by
    intro k u hu
    cases k with
    | zero => rw [add0]; simp at hu; rw [← hu]; simp [World.cell?, hB]
    | succ k => simp at hu
  have e1 : (xs ++ [j]).map vint = xs.map vint ++ [vint j] := by simp
  have fin : ∀ v' w', (Builtin.append_ #[t, t] o.type #[.slice pp xs.length xs.length, .slice (some ⟨B, 0, none⟩) 1 1]).run P w = .ok v' w' → K (a.put o.dst v') w' → o.wp P a w K Q := by
    intro v' w' hrun hk
    unfold Oper.wp execOp
    simp only [ho, resolve, invoke, builtin, Sem.run_bind, Sem.run_pure, Result.andThen_ok, List.map_toArray, List.map_cons, List.map_nil, hs, hx, hrun]
    exact hk
  have grow : ∀ v' w', w'.ownsRow w.heap.size 3 1 v' (xs.length + 1) (xs.map vint ++ [vint j]) → w.grownBy w' none → K (a.put o.dst v') w' := by
    intro v' w' h1 h2
    obtain ⟨g, cap, rfl, hg, hlt⟩ := h1.form (by omega)
    refine h g cap w' ⟨?_, fun hn => by simp at hn⟩ hlt hg ((Keeps.refl _ w).grown h2 (fun k hk => by cases hk))
    rw [e1, List.length_append]
    exact ⟨h1.1, h1.2.imp id (fun ⟨g, cap, cur, a, b, c⟩ => ⟨g, cap, cur, a, Nat.zero_le _, c⟩)⟩
  rcases hr.form with ⟨he, rfl⟩ | ⟨g, cap, cur, he, hpos, hh, h1, h2, h3, h4⟩
  · simp only [Value.slice.injEq] at he
    obtain ⟨rfl, _, _⟩ := he
    obtain ⟨v', w', hrun, r1, r2, _⟩ := run_append_own (P := P) w w.heap.size t o.type 3 i z 1 8 ht hi hz hs1 hb8 hzs (by omega) (.slice none 0 0) 0 [] (World.ownsRow_nil w _ _ 1) ⟨B, 0, none⟩ 1 1 [vint j] rfl hnews (by simp [Value.oneCell']) (by simp [maxLen]) (by omega) (Nat.le_refl _)
    exact fin _ _ hrun (grow v' w' (by simpa using r1) r2)
  · simp only [Value.slice.injEq] at he
    obtain ⟨rfl, _, rfl⟩ := he
    obtain ⟨v', w', hrun, r1, r2⟩ := run_append_arg_grows (P := P) w t o.type 3 i z 1 8 ht hi hz hs1 hb8 hzs (by omega) ⟨g, 0, none⟩ xs.length xs.length (xs.map vint) (by simp) hr.cellsOf ⟨B, 0, none⟩ 1 1 [vint j] rfl hnews (by omega) (by simp only [maxLen]; omega) (by omega)
    exact fin _ _ hrun (grow v' w' r1 r2)
end Go.Proofs.Ytnphhibfiklfjaa

/-!
  espalierlaw24.begun: its data.
-/
namespace Go.Proofs.Ytnphhibfiklfjaa

open Go.RowKit

abbrev kAdd : ByteArray := ⟨#[110, 117, 109, 46, 97, 100, 100]⟩
abbrev kX : ByteArray := ⟨#[97, 110, 121, 46, 120]⟩
abbrev kY : ByteArray := ⟨#[97, 110, 121, 46, 121]⟩
abbrev kYes : ByteArray := ⟨#[98, 97, 115, 101, 46, 121, 101, 115]⟩
abbrev kNo : ByteArray := ⟨#[98, 97, 115, 101, 46, 110, 111]⟩
abbrev nX : ByteArray := ⟨#[120]⟩
abbrev nY : ByteArray := ⟨#[121]⟩
abbrev foTwo (a b : ByteArray) : Fo := .cons a 0 e0 .nil (.cons b 0 e0 .nil .nil)
abbrev ndP : Nd := ⟨kAdd, 0, e0, foTwo kX kY⟩
abbrev ndT : Nd := ⟨kAdd, 0, e0, foTwo kYes kNo⟩
abbrev ndQ : Nd := ⟨kAdd, 0, e0, foTwo kX kX⟩
abbrev ndU : Nd := ⟨kX, 0, e0, .cons kNo 0 e0 .nil .nil⟩

theorem varAdd : varF kAdd = none := by decide
theorem varX : varF kX = some nX := by decide
theorem varY : varF kY = some nY := by decide
theorem varYes : varF kYes = none := by decide
theorem varNo : varF kNo = none := by decide
theorem smallP : ndP.small ∧ ndT.small ∧ ndQ.small ∧ ndU.small := by decide
theorem mayP : mayF ndP = 0 := by rw [mayF, if_pos smallP.1]; decide
theorem mayT : mayF ndT = 0 := by rw [mayF, if_pos smallP.2.1]; decide
theorem mayQ : mayF ndQ = 0 := by rw [mayF, if_pos smallP.2.2.1]; decide
theorem mayU : mayF ndU = 0 := by rw [mayF, if_pos smallP.2.2.2]; decide
theorem mayX : mayF (lf kX) = 0 := by rw [mayF, if_pos (smallLf _)]; decide
theorem pmayP : pmayF ndP = 0 := by rw [pmayF, if_pos mayP]; decide
theorem pmayQ : pmayF ndQ = 0 := by rw [pmayF, if_pos mayQ]; decide
theorem pmayU : pmayF ndU = 41 := by rw [pmayF, if_pos mayU]; decide
theorem pmayX : pmayF (lf kX) = 0 := by rw [pmayF, if_pos mayX]; decide
theorem bget_nX {y : Nd} : bget [(nX, y)] nY = none := by simp [bget]
theorem fitsP : fitsF ndP ndT = some [(nX, lf kYes), (nY, lf kNo)] := by
  rw [fitsF, if_pos]
  · simp only [fit1, varAdd, fitFo, varX, varY, bindF, likeF, bget]
    simp [Fo.len]
  · refine ⟨pmayP, mayT, ?_⟩
    simp only [fit1, varAdd, fitFo, varX, varY, bindF, likeF, bget]
    simp [Fo.len]
theorem fitsQ : fitsF ndQ ndT = none := by
  rw [fitsF, if_neg]
  rintro ⟨_, _, h⟩
  simp only [fit1, varAdd, fitFo, varX, varY, bindF, likeF, bget] at h
  simp [Fo.len, eqN] at h
theorem fillP : fillF ndP [(nX, lf kYes), (nY, lf kNo)] = (ndT, 0) := (fits_fill fitsP).1
theorem fillP0 : fillF ndP [] = (zeroNd, 3) := by
  rw [fillF, if_pos pmayP, if_pos (by rfl), if_neg (by decide)]
  congr 1
theorem namesP : namesF ndP = [nX, nY] := by rw [namesF, if_pos pmayP]; decide
theorem findX : (findF (lf kX) ndT).length = 3 := by
  rw [findF, if_pos ⟨pmayX, mayT⟩]
  simp [fit1, varX, bindF, likeF, bget, pre, preK]
theorem szP : szok kAdd e0 ∧ szok kX e0 ∧ szok kY e0 ∧ szok kYes e0 ∧ szok kNo e0 := by
  refine ⟨?_, ?_, ?_, ?_, ?_⟩ <;> exact ⟨by decide, by decide⟩
abbrev twoCells (a b : ByteArray) : Array Value := #[.string a, .int .i64 0, .string e0, .slice none 0 0, .string b, .int .i64 0, .string e0, .slice none 0 0]
theorem tvTwo {W : World} {B : Nat} {k a b : ByteArray} (sk : szok k e0) (sa : szok a e0) (sb : szok b e0) (h : W.heap[B]? = some (.cells (twoCells a b) T (0, 0))) : Tv W (fun b => b < W.heap.size) k e0 (foTwo a b) (some ⟨B, 0, none⟩) 2 2 := by
  have l := heap_lt h
  refine ⟨sk, by omega, by omega, ?_⟩
  refine ⟨B, 0, 1, none, 0, 0, rfl, rfl, by omega, l, l, sa, by omega, by omega, by simp [World.cell?, h], by simp [World.cell?, h], by simp [World.cell?, h], by simp [World.cell?, h], rfl, ?_⟩
  exact ⟨B, 4, 0, none, 0, 0, rfl, rfl, by omega, l, l, sb, by omega, by omega, by simp [World.cell?, h], by simp [World.cell?, h], by simp [World.cell?, h], by simp [World.cell?, h], rfl, rfl⟩
theorem tvOne {W : World} {B : Nat} {k a : ByteArray} (sk : szok k e0) (sa : szok a e0) (h : W.heap[B]? = some (.cells (four a 0 e0 none 0 0) T (0, 0))) : Tv W (fun b => b < W.heap.size) k e0 (.cons a 0 e0 .nil .nil) (some ⟨B, 0, none⟩) 1 1 := by
  have l := heap_lt h
  refine ⟨sk, by omega, by omega, ?_⟩
  exact ⟨B, 0, 0, none, 0, 0, rfl, rfl, by omega, l, l, sa, by omega, by omega, by simp [World.cell?, h], by simp [World.cell?, h], by simp [World.cell?, h], by simp [World.cell?, h], rfl, rfl⟩
theorem Tv.boxedAt {W : World} {A : Nat → Prop} {k n t c cp cl cc} {B : Nat} (h : Tv W A k t c cp cl cc) (hb : W.heap[B]? = some (.cells (four k n t cp cl cc) T (0, 0))) : NodeAt W A B 0 k n t c cp cl cc := by
  exact ⟨h.size, h.lc, h.cm, by simp [World.cell?, hb], by simp [World.cell?, hb], by simp [World.cell?, hb], by simp [World.cell?, hb], h.kids⟩
end Go.Proofs.Ytnphhibfiklfjaa

/-!
  match.Fill's inner function: its walk.
-/
namespace Go.Proofs.Ytnphhibfiklfjaa

open Go.RowKit

section

variable {A : Nat → Prop} {bs : List Bind} {Kb Mb Lk Wg : Nat} {M : ByteArray → Option Value} {n : Nat} {lb wb : Bool} {W W' : World}

theorem lackB_snoc (bs : List Bind) (l : List Nd) (x : Nd) : lackB bs (l ++ [x]) = (lackB bs l || lack1 bs x) := by simp [lackB, List.any_append]
theorem wrongB_snoc (bs : List Bind) (l : List Nd) (x : Nd) : wrongB bs (l ++ [x]) = (wrongB bs l || wrong1 bs x) := by simp [wrongB, List.any_append]
end

end Go.Proofs.Ytnphhibfiklfjaa

/-!
  espalierlaw24.light: its walk.
-/
namespace Go.Proofs.Ytnphhibfiklfjaa

open Go.RowKit

abbrev mopc (kd : Int) (p t : Nd) (cp tp : Option Addr) (cl cc tl tc : Nat) (bp : Option Addr) (bl bc : Nat) : Array Value := #[.int .i64 kd, .string p.k, .int .i64 p.n, .string p.t, .slice cp cl cc, .string t.k, .int .i64 t.n, .string t.t, .slice tp tl tc, .slice bp bl bc]
theorem mbox {W : World} {b : Nat} {kd : Int} {p t : Nd} {cp tp : Option Addr} {cl cc tl tc : Nat} {bp : Option Addr} {bl bc : Nat} {O : TypeId} (h : W.heap[b]? = some (.cells (mopc kd p t cp tp cl cc tl tc bp bl bc) O (0, 0))) :
    (W.cell? ⟨b, 0, none⟩ = some (.int .i64 kd) ∧ W.cell? ⟨b, 9, none⟩ = some (.slice bp bl bc)) ∧ (W.cell? ⟨b, 1, none⟩ = some (.string p.k) ∧ W.cell? ⟨b, 2, none⟩ = some (.int .i64 p.n) ∧ W.cell? ⟨b, 3, none⟩ = some (.string p.t) ∧ W.cell? ⟨b, 4, none⟩ = some (.slice cp cl cc)) ∧
      (W.cell? ⟨b, 5, none⟩ = some (.string t.k) ∧ W.cell? ⟨b, 6, none⟩ = some (.int .i64 t.n) ∧ W.cell? ⟨b, 7, none⟩ = some (.string t.t) ∧ W.cell? ⟨b, 8, none⟩ = some (.slice tp tl tc)) := by
  simp [World.cell?, h]
/-- What light tells. -/
def mlightF (p t : Nd) (bs : List Bind) : Bool := decide (0 ≤ lightN p) && decide (0 ≤ lightN t) && decide (bs.length < 50) && bs.all (fun e => decide (0 ≤ lightN e.2))
end Go.Proofs.Ytnphhibfiklfjaa
