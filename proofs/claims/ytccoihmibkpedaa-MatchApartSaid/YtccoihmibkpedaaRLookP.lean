/-
  espalierref24.look: what it reckons, and that it is what match.May asks; its list of notes in memory.
-/
import Derived.Test.YtccoihmibkpedaaRVar

set_option linter.unusedVariables false

set_option linter.unusedSimpArgs false

namespace Go.Proofs.Ytccoihmibkpedaa

open Go.RowKit

def nmIn (L : List Note) (nm : ByteArray) : Bool := L.any fun e => decide (e.1 = nm)
def nmBad (L : List Note) (nm : ByteArray) (n : Int) (t : ByteArray) : Bool := L.any fun e => decide (e.1 = nm) && decide (e.2 ≠ (n, t))
def lookV (L : List Note) (nm : ByteArray) (x : Nd) : List Note × Bool := (if nmIn L nm then L else L ++ [(nm, x.n, x.t)], rightF x && !nmBad L nm x.n x.t)
def lookFo : Fo → List Note → List Note × Bool
  | .nil, L => (L, true)
  | .cons k n t c r, L =>
    let q := match varF k with
      | some nm => lookV L nm ⟨k, n, t, c⟩
      | none => lookFo c L
    if q.2 then lookFo r q.1 else q
def look1 (x : Nd) (L : List Note) : List Note × Bool := match varF x.k with
  | some nm => lookV L nm x
  | none => lookFo x.c L
theorem lookFo_cons {k n t c r} {L : List Note} : lookFo (.cons k n t c r) L = if (look1 ⟨k, n, t, c⟩ L).2 then lookFo r (look1 ⟨k, n, t, c⟩ L).1 else look1 ⟨k, n, t, c⟩ L := by
  simp only [lookFo, look1]
  first
    | rfl
    | (split <;> simp_all)
theorem nmIn_nts (l : List Nd) (nm : ByteArray) : nmIn (nts l) nm = (nget (nts l) nm).isSome := by
  rw [Bool.eq_iff_iff, nget_iff]
  simp [nmIn]
theorem lookV_may (l : List Nd) (nm : ByteArray) (x : Nd) (hv : varF x.k = some nm) : lookV (nts l) nm x = (nts (l ++ [x]), fMay l x) := by
  have h1 : nadd (nts l) x = if (nget (nts l) nm).isSome then nts l else nts l ++ [(nm, x.n, x.t)] := by unfold nadd; simp only [hv]
  have h2 : nmBad (nts l) nm x.n x.t = !(match nget (nts l) nm with | none => true | some e => decide (e = (x.n, x.t))) := by
    have hnd := nts_nodup l
    cases hg : nget (nts l) nm with
    | none =>
      simp only [Bool.not_true]
      refine List.any_eq_false.2 fun e he => ?_
      have : ¬ (nget (nts l) nm).isSome = true := by rw [hg]; simp
      rw [nget_iff] at this
      simp only [Bool.and_eq_true, decide_eq_true_eq, not_and]
      exact fun h => absurd (List.mem_map.2 ⟨e, he, h⟩) this
    | some e =>
      have hkey : ∀ (L : List Note) (a : Note), (L.map (·.1)).Nodup → a ∈ L → a.1 = nm → nget L nm = some a.2 := by
        intro L
        induction L with
        | nil => intro a _ h; simp at h
        | cons b r ih =>
          intro a hn hm ha
          unfold nget
          rw [List.find?_cons]
          by_cases hb : b.1 = nm
          · simp only [hb, decide_true, Option.map_some]
            rcases List.mem_cons.1 hm with h | h
            · rw [h]
            · rw [List.map_cons, List.nodup_cons] at hn
              exact absurd (List.mem_map.2 ⟨a, h, ha.trans hb.symm⟩) hn.1
          · simp only [hb, decide_false]
            rcases List.mem_cons.1 hm with h | h
            · rw [h] at ha; exact absurd ha hb
            · rw [List.map_cons, List.nodup_cons] at hn
              exact ih a hn.2 h ha
      have hmem : ∃ a ∈ nts l, a.1 = nm ∧ a.2 = e := by
        unfold nget at hg
        cases hf : (nts l).find? (fun e => decide (e.1 = nm)) with
        | none => rw [hf] at hg; simp at hg
        | some q =>
          rw [hf] at hg
          simp only [Option.map_some, Option.some.injEq] at hg
          have a := List.mem_of_find?_eq_some hf
          have b := List.find?_some hf
          simp only [decide_eq_true_eq] at b
          exact ⟨q, a, b, hg⟩
      by_cases he : e = (x.n, x.t)
      · simp only [he, decide_true, Bool.not_true]
        refine List.any_eq_false.2 fun a ha => ?_
        simp only [Bool.and_eq_true, decide_eq_true_eq, not_and]
        intro h hne
        have := hkey _ a hnd ha h
        rw [hg] at this
        simp only [Option.some.injEq] at this
        exact hne (by rw [← this, he])
      · simp only [he, decide_false, Bool.not_false]
        obtain ⟨a, ha, hn, h2⟩ := hmem
        refine List.any_eq_true.2 ⟨a, ha, ?_⟩
        simp only [Bool.and_eq_true, decide_eq_true_eq]
        exact ⟨hn, by rw [h2]; exact he⟩
  unfold lookV fMay
  rw [hv, nts_snoc, h1, nmIn_nts, h2]
  simp only [Bool.not_not]
  cases nget (nts l) nm <;> rfl
theorem vis_one (f : List Nd → Nd → Bool) (l : List Nd) (x : Nd) : vis f l [x] = (l ++ [x], f l x) := by
  simp only [vis]
  split
  · rename_i h; simp [h]
  · rename_i h; simp only [Bool.not_eq_true] at h; simp [h]
theorem lookFo_may : ∀ (f : Fo) (l : List Nd), (lookFo f (nts l)).2 = (vis fMay l f.all).2 ∧ ((lookFo f (nts l)).2 = true → (lookFo f (nts l)).1 = nts (l ++ f.all)) := by
  intro f
  induction f with
  | nil => intro l; simp [lookFo, Fo.all, vis]
  | cons k n t c r ihc ihr =>
    intro l
    rw [lookFo_cons]
    have hall : Fo.all (.cons k n t c r) = ⟨k, n, t, c⟩ :: (c.all ++ r.all) := rfl
    have hone : (look1 ⟨k, n, t, c⟩ (nts l)).2 = (vis fMay l (⟨k, n, t, c⟩ :: c.all)).2 ∧ ((look1 ⟨k, n, t, c⟩ (nts l)).2 = true → (look1 ⟨k, n, t, c⟩ (nts l)).1 = nts (l ++ (⟨k, n, t, c⟩ :: c.all))) := by
      unfold look1
      cases hv : varF k with
      | some nm =>
        simp only
        rw [lookV_may l nm ⟨k, n, t, c⟩ hv]
        simp only [vis]
        by_cases hf : fMay l ⟨k, n, t, c⟩ = true
        · have hr : rightF ⟨k, n, t, c⟩ = true := by
            unfold fMay at hf
            rw [hv] at hf
            simp only [Bool.and_eq_true] at hf
            exact hf.1
          have hc : c = .nil := (right_leaf hr).1
          subst hc
          simp [hf, Fo.all, vis]
        · simp only [Bool.not_eq_true] at hf
          simp [hf]
      | none =>
        simp only
        have hf : fMay l ⟨k, n, t, c⟩ = true := by unfold fMay; rw [hv]
        have hn : nts (l ++ [⟨k, n, t, c⟩]) = nts l := by rw [nts_snoc]; unfold nadd; simp only [hv]
        obtain ⟨h1, h2⟩ := ihc (l ++ [⟨k, n, t, c⟩])
        rw [hn] at h1 h2
        simp only [vis, hf, if_true]
        refine ⟨h1, fun h => ?_⟩
        rw [h2 h]
        simp
    rw [hall, show (⟨k, n, t, c⟩ : Nd) :: (c.all ++ r.all) = (⟨k, n, t, c⟩ :: c.all) ++ r.all from rfl, vis_append]
    by_cases hq : (look1 ⟨k, n, t, c⟩ (nts l)).2 = true
    · rw [if_pos hq, if_pos (by rw [← hone.1]; exact hq), hone.2 hq, vis_true (by rw [← hone.1]; exact hq)]
      obtain ⟨h1, h2⟩ := ihr (l ++ (⟨k, n, t, c⟩ :: c.all))
      refine ⟨h1, fun h => ?_⟩
      rw [h2 h]
      simp
    · rw [if_neg hq, if_neg (by rw [← hone.1]; exact hq)]
      exact ⟨hone.1, fun h => absurd h hq⟩
/-- What look tells of a whole pattern. -/
theorem look1_may (x : Nd) : (look1 x []).2 = (vis fMay [] x.all).2 ∧ ((look1 x []).2 = true → (look1 x []).1 = nts x.all) := by
  have h := lookFo_may (.cons x.k x.n x.t x.c .nil) []
  have hn : nts ([] : List Nd) = [] := rfl
  rw [hn, lookFo_cons] at h
  have ha : Fo.all (.cons x.k x.n x.t x.c .nil) = x.all := by simp [Fo.all, Nd.all]
  rw [ha] at h
  have hx : (⟨x.k, x.n, x.t, x.c⟩ : Nd) = x := rfl
  rw [hx] at h
  by_cases hq : (look1 x []).2 = true
  · rw [if_pos hq] at h
    simp only [lookFo, List.nil_append] at h
    exact ⟨by rw [hq]; exact h.1, fun _ => h.2 trivial⟩
  · rw [if_neg hq] at h
    simp only [List.nil_append] at h
    exact h
theorem lookV_len (L : List Note) (nm : ByteArray) (x : Nd) : (lookV L nm x).1.length ≤ L.length + 1 := by
  unfold lookV
  split <;> simp
theorem lookFo_len : ∀ (f : Fo) (L : List Note), (lookFo f L).1.length ≤ L.length + f.nodes := by
  intro f
  induction f with
  | nil => intro L; simp [lookFo, Fo.nodes]
  | cons k n t c r ihc ihr =>
    intro L
    rw [lookFo_cons]
    have h1 : (look1 ⟨k, n, t, c⟩ L).1.length ≤ L.length + c.nodes + 1 := by
      unfold look1
      split
      · have := lookV_len L ‹_› ⟨k, n, t, c⟩; omega
      · have := ihc L; show (lookFo c L).1.length ≤ _; omega
    simp only [Fo.nodes]
    split
    · have := ihr (look1 ⟨k, n, t, c⟩ L).1; omega
    · omega
theorem look1_len (x : Nd) (L : List Note) : (look1 x L).1.length ≤ L.length + x.c.nodes + 1 := by
  unfold look1
  split
  · have := lookV_len L ‹_› x; omega
  · have := lookFo_len x.c L; omega

/-! The notes in memory. -/

abbrev TN : TypeId := 151
theorem Try.noteInfo : (Try.prog.info? TN).map (fun i => (i.zero, i.size, i.bytes)) = some (some (.agg #[.string ByteArray.empty, .int .i64 0, .string ByteArray.empty]), 3, 40) := by kernel_rfl
def cellsN : List Note → List Value
  | [] => []
  | e :: r => .string e.1 :: .int .i64 e.2.1 :: .string e.2.2 :: cellsN r
theorem cellsN_len (L : List Note) : (cellsN L).length = L.length * 3 := by
  induction L with
  | nil => rfl
  | cons e r ih => simp only [cellsN, List.length_cons, ih]; omega
theorem cellsN_snoc (L : List Note) (e : Note) : cellsN (L ++ [e]) = cellsN L ++ [.string e.1, .int .i64 e.2.1, .string e.2.2] := by
  induction L with
  | nil => rfl
  | cons a r ih => simp only [List.cons_append, cellsN, ih]
theorem cellsN_at : ∀ (L : List Note) (i : Nat) (e : Note), L[i]? = some e → (cellsN L)[i * 3]? = some (.string e.1) ∧ (cellsN L)[i * 3 + 1]? = some (.int .i64 e.2.1) ∧ (cellsN L)[i * 3 + 2]? = some (.string e.2.2)
  | [], i, e, h => by simp at h
  | a :: r, 0, e, h => by
    simp only [List.getElem?_cons_zero, Option.some.injEq] at h
    subst h
    exact ⟨rfl, rfl, rfl⟩
  | a :: r, i + 1, e, h => by
    simp only [List.getElem?_cons_succ] at h
    have := cellsN_at r i e h
    rw [show (i + 1) * 3 = i * 3 + 1 + 1 + 1 by omega]
    exact this
def NotesI (D : Nat) (W : World) (L : List Note) (lp : Option Addr) (ll lc : Nat) : Prop := W.ownsRow D TN 3 (.slice lp ll lc) L.length (cellsN L)
theorem NotesI.len {D : Nat} {W : World} {L : List Note} {lp : Option Addr} {ll lc : Nat} (h : NotesI D W L lp ll lc) : ll = L.length := row_len h
theorem NotesI.at_ {D : Nat} {W : World} {L : List Note} {lp : Option Addr} {ll lc : Nat} (h : NotesI D W L lp ll lc) {i : Nat} {e : Note} (he : L[i]? = some e) :
    ∃ g, lp = some ⟨g, 0, none⟩ ∧ D ≤ g ∧ g < W.heap.size ∧ W.cell? ⟨g, i * 3, none⟩ = some (.string e.1) ∧ W.cell? ⟨g, i * 3 + 1, none⟩ = some (.int .i64 e.2.1) ∧ W.cell? ⟨g, i * 3 + 2, none⟩ = some (.string e.2.2) := by
  have hi : i < L.length := (List.getElem?_eq_some_iff.1 he).1
  obtain ⟨pp, cap, hv, h1, h2, h3⟩ := ownsRow_slice h
  simp only [Value.slice.injEq] at hv
  obtain ⟨rfl, rfl, rfl⟩ := hv
  obtain ⟨g, rfl⟩ := h3 (by omega)
  obtain ⟨c0, c1, c2⟩ := cellsN_at L i e he
  refine ⟨g, rfl, (h.lt g rfl).1, (h.lt g rfl).2, ?_, ?_, ?_⟩
  · rw [World.ownsRow.cellAt h _ (by omega)]; exact c0
  · rw [World.ownsRow.cellAt h _ (by omega)]; exact c1
  · rw [World.ownsRow.cellAt h _ (by omega)]; exact c2
theorem NotesI.cap {D : Nat} {W : World} {L : List Note} {lp : Option Addr} {ll lc : Nat} (h : NotesI D W L lp ll lc) : ll ≤ lc ∧ lc ≤ 9223372036854775807 := by
  obtain ⟨pp, cap, hv, h1, h2, h3⟩ := ownsRow_slice h
  simp only [Value.slice.injEq] at hv
  obtain ⟨rfl, rfl, rfl⟩ := hv
  unfold maxLen at h2
  exact ⟨h1, h2⟩
theorem NotesI.keeps {D : Nat} {W W1 : World} {L : List Note} {lp : Option Addr} {ll lc : Nat} {S : Nat → Prop} (h : NotesI D W L lp ll lc) (hk : Keeps S W W1) (hS : ∀ b, (Value.slice lp ll lc).ownBlock = some b → ¬ S b) : NotesI D W1 L lp ll lc :=
  ownsRow_same h (fun b hb => by
    have hb : (Value.slice lp ll lc).ownBlock = some b := by simpa using hb
    exact hk.block b (h.lt b hb).2 (hS b hb))
/-- What look leaves. -/
def LookR (D : Nat) (lp : Option Addr) (ll lc : Nat) (q : List Note × Bool) (w : World) (e : Ending) (w' : World) : Prop :=
  ∃ lp' ll' lc', e = .returned (.tuple #[.slice lp' ll' lc', .bool q.2]) ∧ NotesI D w' q.1 lp' ll' lc' ∧ (∀ b, (Value.slice lp' ll' lc').ownBlock = some b → (Value.slice lp ll lc).ownBlock = some b ∨ w.heap.size ≤ b) ∧ Keeps (fun b => (Value.slice lp ll lc).ownBlock = some b) w w'
end Go.Proofs.Ytccoihmibkpedaa
