/-
  Merged texts: XMatM, XMatN.
-/
import Derived.Test.YtnphhibfiklfjaaMatA

import Derived.Test.YtnphhibfiklfjaaPkC

import Derived.Deep.RegionLaw

import Derived.Deep.Cut

import Derived.Deep.AppendLies

set_option linter.unusedVariables false

set_option linter.unusedSimpArgs false

/-!
  match.May, match.Names: their walks.
-/
namespace Go.Proofs.Ytnphhibfiklfjaa

open Go.RowKit

theorem NodeAt.next {w w1 : World} {A : Nat → Prop} {b o k n t c cp cl cc} (h : NodeAt w A b o k n t c cp cl cc) (hk : Keeps (fun _ => False) w w1) (hb : b < w.heap.size) : NodeAt w1 A b o k n t c cp cl cc := h.keeps hk (fun _ _ h => h) hb (fun h => h)
theorem nget_nadd (acc : List Note) (x : Nd) (nm : ByteArray) : nget (nadd acc x) nm = if varF x.k = some nm then some ((nget acc nm).getD (x.n, x.t)) else nget acc nm := by
  unfold nadd
  cases hv : varF x.k with
  | none => simp
  | some a =>
    simp only [Option.some.injEq]
    by_cases h : (nget acc a).isSome
    · rw [if_pos h]
      by_cases he : a = nm
      · subst he
        rw [if_pos rfl]
        cases hg : nget acc a with
        | none => rw [hg] at h; simp at h
        | some e => rfl
      · rw [if_neg he]
    · rw [if_neg h]
      have h' : nget acc a = none := by cases hg : nget acc a with
        | none => rfl
        | some e => rw [hg] at h; simp at h
      by_cases he : a = nm
      · subst he
        rw [if_pos rfl, h']
        unfold nget at h' ⊢
        rw [List.find?_append]
        simp only [Option.map_eq_none_iff] at h'
        rw [h']
        simp
      · rw [if_neg he]
        unfold nget
        rw [List.find?_append]
        simp [he]
abbrev noteV (e : Int × ByteArray) : Value := .agg #[.int .i64 e.1, .string e.2]
def noteM (L : List Note) (nm : ByteArray) : Option Value := (nget L nm).map noteV
theorem noteM_put {l : List Nd} {x : Nd} {nm : ByteArray} (hv : varF x.k = some nm) (h : ∀ e, nget (nts l) nm = some e → e = (x.n, x.t)) : putM (noteM (nts l)) nm (noteV (x.n, x.t)) = noteM (nts (l ++ [x])) := by
  funext a
  rw [nts_snoc]
  unfold putM noteM
  rw [nget_nadd, hv]
  by_cases ha : a = nm
  · subst ha
    rw [if_pos rfl, if_pos rfl]
    cases hg : nget (nts l) a with
    | none => rfl
    | some e => rw [h e hg]; rfl
  · rw [if_neg ha, if_neg (fun e => ha (by simpa using e.symm))]
theorem noteM_skip {l : List Nd} {x : Nd} (hv : varF x.k = none) : noteM (nts (l ++ [x])) = noteM (nts l) := by
  rw [nts_snoc, nadd, hv]
theorem nts_size {l : List Nd} {nm : ByteArray} {e : Int × ByteArray} (h : nget (nts l) nm = some e) : ∃ x ∈ l, varF x.k = some nm ∧ e = (x.n, x.t) := by
  have key : ∀ (l : List Nd) (acc : List Note), nget (l.foldl nadd acc) nm = some e → nget acc nm = some e ∨ ∃ x ∈ l, varF x.k = some nm ∧ e = (x.n, x.t) := by
    intro l
    induction l with
    | nil => intro acc h; exact .inl h
    | cons x l ih =>
      intro acc h
      rcases ih (nadd acc x) h with h1 | ⟨y, hy, r⟩
      · rw [nget_nadd] at h1
        by_cases hv : varF x.k = some nm
        · rw [if_pos hv] at h1
          cases hg : nget acc nm with
          | none => rw [hg] at h1; exact .inr ⟨x, by simp, hv, by simpa using h1.symm⟩
          | some e' => rw [hg] at h1; exact .inl (by simpa using h1)
        · rw [if_neg hv] at h1; exact .inl h1
      · exact .inr ⟨y, by simp [hy], r⟩
  rcases key l [] h with h1 | h1
  · simp [nget] at h1
  · exact h1
end Go.Proofs.Ytnphhibfiklfjaa

/-!
  match.May, match.Names: their walks.
-/
namespace Go.Proofs.Ytnphhibfiklfjaa

open Go.RowKit

theorem small_nodes {x : Nd} (h : x.small) : x.c.nodes < 1024 := by have := h.1; simp only [Nd.nodes] at this; omega
theorem mayF_small {x : Nd} (h : mayF x = 0) : x.small := by
  unfold mayF at h
  split at h
  · assumption
  · simp at h
def noteI (L : List Note) (nm : ByteArray) : Option Value := (nget L nm).map fun _ => .int .i64 1
theorem noteI_put {l : List Nd} {x : Nd} {nm : ByteArray} (hv : varF x.k = some nm) (v : Value) (hval : v = .int .i64 1) : putM (noteI (nts l)) nm v = noteI (nts (l ++ [x])) := by
  subst hval
  funext a
  rw [nts_snoc]
  unfold putM noteI
  rw [nget_nadd, hv]
  by_cases ha : a = nm
  · subst ha; rw [if_pos rfl, if_pos rfl]; rfl
  · rw [if_neg ha, if_neg (fun e => ha (by simpa using e.symm))]
theorem nts_le (l : List Nd) : (nts l).length ≤ l.length := by
  have key : ∀ (l : List Nd) (acc : List Note), (l.foldl nadd acc).length ≤ acc.length + l.length := by
    intro l
    induction l with
    | nil => intro acc; simp
    | cons x l ih =>
      intro acc
      have h1 := ih (nadd acc x)
      have h2 : (nadd acc x).length ≤ acc.length + 1 := by
        unfold nadd
        cases varF x.k with
        | none => simp
        | some a => simp only; split <;> simp
      simp only [List.foldl_cons, List.length_cons]
      omega
  simpa [nts] using key l []
theorem zeroI (w : World) : (zeroValue 3).run Try.prog w = .ok (.int .i64 0) w := by kernel_rfl
theorem Try.strInfo' : (Try.prog.info? 9).map (fun i => (i.zero, i.size, i.bytes)) = some (some (.string ByteArray.empty), 1, 16) := by kernel_rfl
theorem nget_mem {L : List Note} {nm : ByteArray} {e : Int × ByteArray} (h : nget L nm = some e) : (nm, e) ∈ L := by
  unfold nget at h
  cases hf : L.find? (fun e => decide (e.1 = nm)) with
  | none => rw [hf] at h; simp at h
  | some q =>
    rw [hf] at h
    simp only [Option.map_some, Option.some.injEq] at h
    have h1 := List.mem_of_find?_eq_some hf
    have h2 := List.find?_some hf
    simp only [decide_eq_true_eq] at h2
    rw [← h, ← h2]
    exact h1
/-- A list of texts. -/
def StrsR (l : List ByteArray) (w : World) (e : Ending) (w' : World) : Prop := ∃ vp vl vc, e = .returned (.slice vp vl vc) ∧ w'.ownsRow 0 9 1 (.slice vp vl vc) l.length (l.map .string) ∧ (∀ b, (Value.slice vp vl vc).ownBlock = some b → w.heap.size ≤ b) ∧ Keeps (fun _ => False) w w'
end Go.Proofs.Ytnphhibfiklfjaa
