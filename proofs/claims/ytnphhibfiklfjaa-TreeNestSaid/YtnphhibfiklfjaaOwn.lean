/-
  Trees in memory of their own: rows of kids in blocks that nobody else has.
-/
import Derived.Test.YtnphhibfiklfjaaFo
import Derived.OwnWalk
import Derived.Maps.AppendAt
import Derived.Deep.AppendLies
set_option linter.unusedVariables false
set_option linter.unusedSimpArgs false
namespace Go.Proofs.Ytnphhibfiklfjaa
open Go.RowKit

namespace Fo
def snoc : Fo → ByteArray → Int → ByteArray → Fo → Fo
  | nil, k, n, t, c => .cons k n t c .nil
  | cons k' n' t' c' r, k, n, t, c => .cons k' n' t' c' (r.snoc k n t c)
def take : Nat → Fo → Fo
  | 0, _ => nil
  | _ + 1, nil => nil
  | i + 1, cons k n t c r => .cons k n t c (take i r)
theorem take_step {i : Nat} {f : Fo} {k n t c r} (h : drop i f = .cons k n t c r) : take (i + 1) f = (take i f).snoc k n t c := by
  induction i generalizing f with
  | zero => cases f with
    | nil => simp [drop] at h
    | cons k' n' t' c' r' => simp only [drop] at h; injection h with h1 h2 h3 h4 h5; subst h1 h2 h3 h4; simp [take, snoc]
  | succ i ih => cases f with
    | nil => simp [drop] at h
    | cons k' n' t' c' r' => simp only [drop] at h; rw [take, ih h]; rfl
theorem take_len {f : Fo} {i : Nat} (h : f.len ≤ i) : take i f = f := by
  induction i generalizing f with
  | zero => cases f with
    | nil => rfl
    | cons k n t c r => simp [len] at h
  | succ i ih => cases f with
    | nil => rfl
    | cons k n t c r => rw [take, ih (by simpa [len] using h)]
theorem len_snoc (f : Fo) (k n t c) : (f.snoc k n t c).len = f.len + 1 := by
  induction f with
  | nil => rfl
  | cons k' n' t' c' r _ ih => simp [snoc, len, ih]
theorem len_take (i : Nat) (f : Fo) (h : i ≤ f.len) : (take i f).len = i := by
  induction i generalizing f with
  | zero => rfl
  | succ i ih => cases f with
    | nil => simp [len] at h
    | cons k n t c r => simp [take, len, ih r (by simpa [len] using h)]
end Fo

abbrev sb (p : Option Addr) (l c : Nat) : List Nat := ((Value.slice p l c).ownBlock).toList

/-- The values xs are the trees f, four cells each; bs: the blocks of the lists of kids beneath. -/
def RowRep (w : World) : Fo → List Value → List Nat → Prop
  | .nil, xs, bs => xs = [] ∧ bs = []
  | .cons k n t c r, xs, bs => ∃ cp cl cc ys bs1 xs' bs2, xs = .string k :: .int .i64 n :: .string t :: .slice cp cl cc :: xs' ∧ bs = sb cp cl cc ++ bs1 ++ bs2 ∧ szok k t ∧
      w.ownsRow 0 24 4 (.slice cp cl cc) c.len ys ∧ RowRep w c ys bs1 ∧ RowRep w r xs' bs2
/-- A list of kids in memory of its own. -/
def Own (w : World) (c : Fo) (cp : Option Addr) (cl cc : Nat) (bs : List Nat) : Prop :=
  ∃ ys bs1, w.ownsRow 0 24 4 (.slice cp cl cc) c.len ys ∧ RowRep w c ys bs1 ∧ bs = sb cp cl cc ++ bs1

theorem ownsRow_same {w w1 : World} {base e size n : Nat} {v : Value} {xs : List Value} (h : w.ownsRow base e size v n xs) (hb : ∀ b ∈ v.ownBlock.toList, w1.heap[b]? = w.heap[b]?) : w1.ownsRow base e size v n xs := by
  refine ⟨h.1, ?_⟩
  rcases h.2 with h2 | ⟨g, cap, cur, rfl, hg, hh, r⟩
  · exact .inl h2
  · exact .inr ⟨g, cap, cur, rfl, hg, by rw [hb g (by simp [Value.ownBlock])]; exact hh, r⟩
theorem RowRep.same {w w1 : World} : ∀ {f : Fo} {xs : List Value} {bs : List Nat}, RowRep w f xs bs → (∀ b ∈ bs, w1.heap[b]? = w.heap[b]?) → RowRep w1 f xs bs
  | .nil, _, _, h, _ => h
  | .cons _ _ _ _ _, _, _, ⟨cp, cl, cc, ys, bs1, xs', bs2, hx, hbs, ht, ho, hc, hr⟩, hb =>
    ⟨cp, cl, cc, ys, bs1, xs', bs2, hx, hbs, ht, ownsRow_same ho (fun b h => hb b (by rw [hbs]; simp only [List.mem_append]; exact .inl (.inl h))), RowRep.same hc (fun b h => hb b (by rw [hbs]; simp only [List.mem_append]; exact .inl (.inr h))), RowRep.same hr (fun b h => hb b (by rw [hbs]; simp only [List.mem_append]; exact .inr h))⟩
theorem Own.same {w w1 : World} {c : Fo} {cp cl cc bs} (h : Own w c cp cl cc bs) (hb : ∀ b ∈ bs, w1.heap[b]? = w.heap[b]?) : Own w1 c cp cl cc bs := by
  obtain ⟨ys, bs1, ho, hr, rfl⟩ := h
  exact ⟨ys, bs1, ownsRow_same ho (fun b h => hb b (by simp only [List.mem_append]; exact .inl h)), hr.same (fun b h => hb b (by simp only [List.mem_append]; exact .inr h)), rfl⟩
theorem RowRep.keeps {w w1 : World} {S : Nat → Prop} {f : Fo} {xs : List Value} {bs : List Nat} (h : RowRep w f xs bs) (hk : Keeps S w w1) (hb : ∀ b ∈ bs, b < w.heap.size ∧ ¬ S b) : RowRep w1 f xs bs := h.same fun b hm => hk.block b (hb b hm).1 (hb b hm).2
theorem Own.keeps {w w1 : World} {S : Nat → Prop} {c : Fo} {cp cl cc bs} (h : Own w c cp cl cc bs) (hk : Keeps S w w1) (hb : ∀ b ∈ bs, b < w.heap.size ∧ ¬ S b) : Own w1 c cp cl cc bs := h.same fun b hm => hk.block b (hb b hm).1 (hb b hm).2
theorem RowRep.snoc {w : World} {k n t c cp cl cc bs'} (ht : szok k t) (ho : Own w c cp cl cc bs') : ∀ {f : Fo} {xs : List Value} {bs : List Nat}, RowRep w f xs bs → RowRep w (f.snoc k n t c) (xs ++ [.string k, .int .i64 n, .string t, .slice cp cl cc]) (bs ++ bs')
  | .nil, _, _, ⟨hx, hb⟩ => by
    subst hx hb
    obtain ⟨ys, bs1, h1, h2, rfl⟩ := ho
    exact ⟨cp, cl, cc, ys, bs1, [], [], rfl, by simp, ht, h1, h2, rfl, rfl⟩
  | .cons _ _ _ _ _, _, _, ⟨cp', cl', cc', ys, bs1, xs', bs2, hx, hbs, ht', h1, h2, hr⟩ =>
    ⟨cp', cl', cc', ys, bs1, _, _, by rw [hx]; rfl, by rw [hbs]; simp [List.append_assoc], ht', h1, h2, RowRep.snoc ht ho hr⟩
theorem add0 (g j : Nat) : (⟨g, 0, none⟩ : Addr).add j = ⟨g, j, none⟩ := by unfold Addr.add; split <;> simp_all
theorem RowRep.nil (w : World) : RowRep w .nil [] [] := ⟨rfl, rfl⟩
theorem Own.nil (w : World) : Own w .nil none 0 0 [] := ⟨[], [], World.ownsRow_nil _ _ _ _, RowRep.nil w, rfl⟩
/-- The row's own cells, read one by one. -/
theorem RowRep.kids {w : World} {A : Nat → Prop} : ∀ {f : Fo} {xs : List Value} {bs : List Nat} {g o : Nat}, RowRep w f xs bs → (∀ j u, xs[j]? = some u → w.cell? ⟨g, o + j, none⟩ = some u) → A g → g < w.heap.size → f.len ≤ 9223372036854775807 → (∀ b ∈ bs, A b) → Kids w A f (some ⟨g, o, none⟩) f.len
  | .nil, _, _, _, _, _, _, _, _, _, _ => rfl
  | .cons k n t c r, _, _, g, o, ⟨cp, cl, cc, ys, bs1, xs', bs2, hx, hbs, ht, ho, hc, hr⟩, hcell, hA, hg, hl, hb => by
    subst hx
    have hmem : ∀ b, b ∈ sb cp cl cc ++ bs1 → A b := fun b h => hb b (by rw [hbs]; simp only [List.mem_append] at h ⊢; exact .inl h)
    have hkc : Kids w A c cp cl ∧ cl ≤ cc ∧ cc ≤ 9223372036854775807 := by
      rcases ho.2 with ⟨he, h0⟩ | ⟨g', cap, cur, he, _, hh, h1, h2, h3, h4⟩
      · cases c with
        | nil => simp only [Value.slice.injEq] at he; obtain ⟨_, rfl, rfl⟩ := he; exact ⟨rfl, Nat.le_refl _, by omega⟩
        | cons k' n' t' c' r' => simp [Fo.len] at h0
      · simp only [Value.slice.injEq] at he
        obtain ⟨rfl, rfl, rfl⟩ := he
        have hlt : g' < w.heap.size := (Array.getElem?_eq_some_iff.1 hh).1
        refine ⟨RowRep.kids hc (fun j u hu => ?_) (hmem g' (by simp [sb, Value.ownBlock])) hlt (by simp only [maxLen] at h2; omega) (fun b hm => hmem b (by simp only [List.mem_append]; exact .inr hm)), h1, by simpa [maxLen] using h2⟩
        have := ho.cells (g := g') rfl j u hu
        rw [add0] at this
        simpa using this
    refine ⟨g, o, r.len, cp, cl, cc, rfl, rfl, hl, hA, hg, ht, hkc.2.1, hkc.2.2, ?_, ?_, ?_, ?_, hkc.1, ?_⟩
    · exact hcell 0 _ rfl
    · exact hcell 1 _ rfl
    · exact hcell 2 _ rfl
    · exact hcell 3 _ rfl
    · refine RowRep.kids hr (fun j u hu => ?_) hA hg (by simp only [Fo.len] at hl; omega) (fun b hm => hb b (by rw [hbs]; simp only [List.mem_append]; exact .inr hm))
      have := hcell (j + 4) u (by simpa using hu)
      rw [show o + 4 + j = o + (j + 4) by omega]
      exact this
theorem Own.kids {w : World} {A : Nat → Prop} {c : Fo} {cp cl cc bs} (h : Own w c cp cl cc bs) (hb : ∀ b ∈ bs, A b) : Kids w A c cp cl ∧ cl ≤ cc ∧ cc ≤ 9223372036854775807 ∧ c.len = cl := by
  obtain ⟨ys, bs1, ho, hr, rfl⟩ := h
  rcases ho.2 with ⟨he, h0⟩ | ⟨g', cap, cur, he, _, hh, h1, h2, h3, h4⟩
  · cases c with
    | nil => simp only [Value.slice.injEq] at he; obtain ⟨_, rfl, rfl⟩ := he; exact ⟨rfl, Nat.le_refl _, by omega, rfl⟩
    | cons k' n' t' c' r' => simp [Fo.len] at h0
  · simp only [Value.slice.injEq] at he
    obtain ⟨rfl, rfl, rfl⟩ := he
    have hlt : g' < w.heap.size := (Array.getElem?_eq_some_iff.1 hh).1
    refine ⟨RowRep.kids hr (fun j u hu => ?_) (hb g' (by simp [sb, Value.ownBlock])) hlt (by simp only [maxLen] at h2; omega) (fun b hm => hb b (by simp only [List.mem_append]; exact .inr hm)), h1, by simpa [maxLen] using h2, rfl⟩
    have := ho.cells (g := g') rfl j u hu
    rw [add0] at this
    simpa using this
theorem Own.tv {w : World} {k t : ByteArray} {c : Fo} {cp cl cc bs} (h : Own w c cp cl cc bs) (ht : szok k t) : Tv w (fun b => b ∈ bs) k t c cp cl cc := by
  obtain ⟨h1, h2, h3, _⟩ := h.kids (A := fun b => b ∈ bs) (fun _ h => h)
  exact ⟨ht, h2, h3, h1⟩
/-- New memory: blocks from D on, each once. -/
structure News (w : World) (D : Nat) (bs : List Nat) : Prop where
  lo : ∀ b ∈ bs, D ≤ b
  hi : ∀ b ∈ bs, b < w.heap.size
  nodup : bs.Nodup
theorem News.keeps {w w1 : World} {D : Nat} {bs : List Nat} {S : Nat → Prop} (h : News w D bs) (hk : Keeps S w w1) : News w1 D bs := ⟨h.lo, fun b hb => Nat.lt_of_lt_of_le (h.hi b hb) hk.size, h.nodup⟩
theorem News.nil (w : World) (D : Nat) : News w D [] := ⟨by simp, by simp, List.nodup_nil⟩
theorem News.append {w w1 : World} {D : Nat} {bs bs' : List Nat} {S : Nat → Prop} (h : News w D bs) (hD : D ≤ w.heap.size) (h' : News w1 w.heap.size bs') (hk : Keeps S w w1) : News w1 D (bs ++ bs') := by
  refine ⟨fun b hb => ?_, fun b hb => ?_, ?_⟩
  · rcases List.mem_append.1 hb with hb | hb
    · exact h.lo b hb
    · exact Nat.le_trans hD (h'.lo b hb)
  · rcases List.mem_append.1 hb with hb | hb
    · exact Nat.lt_of_lt_of_le (h.hi b hb) hk.size
    · exact h'.hi b hb
  · refine List.nodup_append.2 ⟨h.nodup, h'.nodup, fun a ha b hb e => ?_⟩
    have h1 := h.hi a ha
    have h2 := h'.lo b hb
    omega
theorem News.mono {w : World} {D D' : Nat} {bs : List Nat} (h : News w D bs) (hD : D' ≤ D) : News w D' bs := ⟨fun b hb => Nat.le_trans hD (h.lo b hb), h.hi, h.nodup⟩

end Go.Proofs.Ytnphhibfiklfjaa
