/-
  Lists of bounds whose trees lie in what was handed in.
-/
import Derived.Test.YtccoihmibkpedaaRWrong

import Derived.Test.YtccoihmibkpedaaRefs

set_option linter.unusedVariables false

set_option linter.unusedSimpArgs false

namespace Go.Proofs.Ytccoihmibkpedaa

open Go.RowKit

def BRepX (w : World) (A : Nat → Prop) : List Bind → List Value → Prop
  | [], xs => xs = []
  | (nm, x) :: L, xs => ∃ cp cl cc xs', xs = .string nm :: .string x.k :: .int .i64 x.n :: .string x.t :: .slice cp cl cc :: xs' ∧ nm.size ≤ 140737488351232 ∧ Tv w A x.k x.t x.c cp cl cc ∧ BRepX w A L xs'
theorem BRepX.keeps {w w1 : World} {A S : Nat → Prop} (hk : Keeps S w w1) (hA : ∀ b, A b → ¬ S b) : ∀ {L : List Bind} {xs : List Value}, BRepX w A L xs → BRepX w1 A L xs
  | [], _, h => h
  | (nm, x) :: L, _, ⟨cp, cl, cc, xs', hx, hn, ht, hr⟩ => ⟨cp, cl, cc, xs', hx, hn, ht.keeps hk hA, BRepX.keeps hk hA hr⟩
theorem BRepX.mono {w : World} {A A' : Nat → Prop} (hA : ∀ b, A b → A' b) : ∀ {L : List Bind} {xs : List Value}, BRepX w A L xs → BRepX w A' L xs
  | [], _, h => h
  | (nm, x) :: L, _, ⟨cp, cl, cc, xs', hx, hn, ht, hr⟩ => ⟨cp, cl, cc, xs', hx, hn, ht.mono hA, BRepX.mono hA hr⟩
theorem BRepX.snoc {w : World} {A : Nat → Prop} {nm : ByteArray} {x : Nd} {cp : Option Addr} {cl cc : Nat} (hn : nm.size ≤ 140737488351232) (ht : Tv w A x.k x.t x.c cp cl cc) : ∀ {L : List Bind} {xs : List Value}, BRepX w A L xs →
    BRepX w A (L ++ [(nm, x)]) (xs ++ [.string nm, .string x.k, .int .i64 x.n, .string x.t, .slice cp cl cc])
  | [], _, rfl => ⟨cp, cl, cc, [], rfl, hn, ht, rfl⟩
  | (nm', x') :: L, _, ⟨cp', cl', cc', xs', rfl, hn', ht', hr⟩ => ⟨cp', cl', cc', _, rfl, hn', ht', BRepX.snoc hn ht hr⟩
theorem BRepX.at_ {w : World} {A A' : Nat → Prop} (hAA : ∀ b, A b → A' b) : ∀ {L : List Bind} {xs : List Value} {g o : Nat}, BRepX w A L xs → (∀ j u, xs[j]? = some u → w.cell? ⟨g, o + j, none⟩ = some u) → A' g → g < w.heap.size → L.length ≤ 9223372036854775807 → BindsAt w A' L (some ⟨g, o, none⟩) L.length
  | [], _, _, _, _, _, _, _, _ => rfl
  | (nm, x) :: L, _, g, o, ⟨cp, cl, cc, xs', rfl, hn, ht, hr⟩, hc, hA, hg, hl => by
    refine ⟨g, o, L.length, cp, cl, cc, rfl, rfl, hl, hA, hg, hn, hc 0 _ rfl, ⟨ht.size, ht.lc, ht.cm, hc 1 _ rfl, ?_, ?_, ?_, ht.kids.mono hAA⟩, ?_⟩
    · have := hc 2 _ rfl
      rw [show o + 1 + 1 = o + 2 by omega]; exact this
    · have := hc 3 _ rfl
      rw [show o + 1 + 2 = o + 3 by omega]; exact this
    · have := hc 4 _ rfl
      rw [show o + 1 + 3 = o + 4 by omega]; exact this
    · refine BRepX.at_ hAA hr (fun j u hu => ?_) hA hg (by simp only [List.length_cons] at hl; omega)
      have := hc (j + 5) u (by simpa using hu)
      rw [show o + 5 + j = o + (j + 5) by omega]
      exact this
structure BindsX (D : Nat) (A : Nat → Prop) (W : World) (L : List Bind) (lp : Option Addr) (ll lc : Nat) (xs : List Value) : Prop where
  row : W.ownsRow D TB 5 (.slice lp ll lc) L.length xs
  rep : BRepX W A L xs
section

variable {D : Nat} {A : Nat → Prop} {W W1 : World} {L : List Bind} {lp : Option Addr} {ll lc : Nat} {xs : List Value}

theorem BindsX.start (D : Nat) (A : Nat → Prop) (W : World) : BindsX D A W [] none 0 0 [] := ⟨World.ownsRow_nil _ _ _ _, rfl⟩
theorem BindsX.keeps {S : Nat → Prop} (h : BindsX D A W L lp ll lc xs) (hk : Keeps S W W1) (hA : ∀ b, A b → ¬ S b) (hS : ∀ b, (Value.slice lp ll lc).ownBlock = some b → ¬ S b) : BindsX D A W1 L lp ll lc xs :=
  ⟨ownsRow_same h.row (fun b hb => by
    have hb : (Value.slice lp ll lc).ownBlock = some b := by simpa using hb
    exact hk.block b (h.row.lt b hb).2 (hS b hb)), h.rep.keeps hk hA⟩
theorem BindsX.next (h : BindsX D A W L lp ll lc xs) (hk : Keeps (fun _ => False) W W1) : BindsX D A W1 L lp ll lc xs := h.keeps hk (fun _ _ h => h) (fun _ _ h => h)
theorem BindsX.length (h : BindsX D A W L lp ll lc xs) : ll = L.length := row_len h.row
theorem BindsX.cap (h : BindsX D A W L lp ll lc xs) : ll ≤ lc ∧ lc ≤ 9223372036854775807 := by
  obtain ⟨pp, cap, hv, h1, h2, h3⟩ := ownsRow_slice h.row
  simp only [Value.slice.injEq] at hv
  obtain ⟨rfl, rfl, rfl⟩ := hv
  unfold maxLen at h2
  exact ⟨h1, h2⟩
theorem BindsX.lower {D' : Nat} (h : BindsX D A W L lp ll lc xs) (hD : D' ≤ D) : BindsX D' A W L lp ll lc xs := ⟨ownsRow_bs h.row hD, h.rep⟩
theorem BindsX.at_ (h : BindsX D A W L lp ll lc xs) : BindsAt W (fun b => (Value.slice lp ll lc).ownBlock = some b ∨ A b) L lp ll := by
  obtain ⟨pp, cap, hv, h1, h2, h3⟩ := ownsRow_slice h.row
  have hl := h.length
  simp only [Value.slice.injEq] at hv
  obtain ⟨rfl, rfl, rfl⟩ := hv
  cases L with
  | nil => rfl
  | cons e r =>
    obtain ⟨g, rfl⟩ := h3 (by simp)
    refine h.rep.at_ (A' := fun b => (Value.slice (some ⟨g, 0, none⟩) (e :: r).length lc).ownBlock = some b ∨ A b) (fun b hb => .inr hb) (fun j u hu => ?_) (.inl rfl) (h.row.lt g rfl).2 (by unfold maxLen at h2; omega)
    have := h.row.cells (g := g) rfl j u hu
    rw [add0] at this
    simpa using this
end

theorem var_size {k nm : ByteArray} (h : varF k = some nm) (hs : k.size ≤ 140737488351232) : nm.size ≤ 140737488351232 := by
  unfold varF at h
  split at h
  · simp only [Option.some.injEq] at h
    rw [← h]
    exact (cutB_size k hs).2
  · simp at h
/-- What the reference's fits leaves. -/
def FitsX (D : Nat) (A : Nat → Prop) (lp : Option Addr) (ll lc : Nat) (q : List Bind × Bool) (w : World) (e : Ending) (w' : World) : Prop :=
  ∃ lp' ll' lc' xs', e = .returned (.tuple #[.slice lp' ll' lc', .bool q.2]) ∧ BindsX D A w' q.1 lp' ll' lc' xs' ∧ (∀ b, (Value.slice lp' ll' lc').ownBlock = some b → (Value.slice lp ll lc).ownBlock = some b ∨ w.heap.size ≤ b) ∧ Keeps (fun b => (Value.slice lp ll lc).ownBlock = some b) w w'
/-- How the loop over the kids stands. -/
noncomputable def fitC (b : Bool) (L : List Bind) (f g : Fo) : List Bind × Bool := if b then fitFo f g L else (L, false)
theorem fitC_step {k n t c r k' n' t' c' r'} {L : List Bind} {f g : Fo} {j : Nat} (hd : f.drop j = .cons k n t c r) (hd' : g.drop j = .cons k' n' t' c' r') :
    fitC true L (f.drop j) (g.drop j) = fitC (fit1 k n t c ⟨k', n', t', c'⟩ L).2 (fit1 k n t c ⟨k', n', t', c'⟩ L).1 (f.drop (j + 1)) (g.drop (j + 1)) := by
  rw [hd, hd', Fo.drop_step hd, Fo.drop_step hd']
  unfold fitC
  rw [if_pos rfl, fitFo_cons]
theorem fitC_end {b : Bool} {L : List Bind} {f g : Fo} (h : f = .nil) : fitC b L f g = (L, b) := by
  subst h
  unfold fitC
  cases b with
  | true => cases g <;> simp [fitFo]
  | false => rfl
theorem fitFo_small : ∀ (f g : Fo) (bs : List Bind), (∀ e ∈ bs, e.2.small) → (∀ a ∈ g.all, a.small) → ∀ e ∈ (fitFo f g bs).1, e.2.small := by
  intro f
  induction f with
  | nil => intro g bs hb _; cases g <;> exact hb
  | cons k n t c r ihc ihr =>
    intro g bs hb hg
    cases g with
    | nil => exact hb
    | cons k' n' t' c' r' =>
      rw [fitFo_cons]
      have h1 : ∀ e ∈ (fit1 k n t c ⟨k', n', t', c'⟩ bs).1, e.2.small := by
        unfold fit1
        cases hv : varF k with
        | some nm =>
          exact bindF_all (Q := fun _ y => y.small) hb (fun _ => hg _ (by simp [Fo.all]))
        | none =>
          simp only
          split
          · exact ihc c' bs hb (fun a ha => hg a (by simp [Fo.all, ha]))
          · exact hb
      split
      · exact ihr r' _ h1 (fun a ha => hg a (by simp [Fo.all, ha]))
      · exact h1
theorem small_all : ∀ (f : Fo), f.nodes ≤ 1024 ∧ f.depth ≤ 64 ∧ f.bytes ≤ 16384 → ∀ a ∈ f.all, a.small := by
  intro f h a ha
  obtain ⟨h1, h2, h3, _⟩ := Fo.part f a ha
  exact ⟨by omega, by omega, by omega⟩
theorem fit1_small {k : ByteArray} {n : Int} {t : ByteArray} {c : Fo} {y : Nd} {bs : List Bind} (hb : ∀ e ∈ bs, e.2.small) (hy : y.small) : ∀ e ∈ (fit1 k n t c y bs).1, e.2.small := by
  unfold fit1
  cases hv : varF k with
  | some nm => exact bindF_all (Q := fun _ z => z.small) hb (fun _ => hy)
  | none =>
    simp only
    split
    · refine fitFo_small c y.c bs hb (small_all _ ?_)
      obtain ⟨h1, h2, h3⟩ := hy
      simp only [Nd.nodes, Nd.depth, Nd.bytes] at h1 h2 h3
      exact ⟨by omega, by omega, by omega⟩
    · exact hb
theorem drop_all {f : Fo} {j : Nat} {k n t c r} (h : f.drop j = .cons k n t c r) : ∀ a ∈ Nd.all ⟨k, n, t, c⟩, a ∈ f.all := by
  have h1 : ∀ (j : Nat) (f : Fo), ∀ a ∈ (f.drop j).all, a ∈ f.all := by
    intro j
    induction j with
    | zero => intro f a ha; exact ha
    | succ j ih =>
      intro f a ha
      cases f with
      | nil => simp [Fo.drop, Fo.all] at ha
      | cons k n t c r =>
        have := ih r a ha
        simp only [Fo.all, List.mem_cons, List.mem_append]
        exact .inr (.inr this)
  intro a ha
  refine h1 j f a ?_
  rw [h]
  simp only [Nd.all, List.mem_cons] at ha
  simp only [Fo.all, List.mem_cons, List.mem_append]
  rcases ha with h | h
  · exact .inl h
  · exact .inr (.inl h)
end Go.Proofs.Ytccoihmibkpedaa
