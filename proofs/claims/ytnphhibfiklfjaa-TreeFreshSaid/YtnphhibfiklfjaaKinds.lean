/-
  tree.Kinds: its walks.
-/
import Derived.Test.YtnphhibfiklfjaaPkC

import Derived.Maps.Own

import Derived.Maps.OwnSet

import Derived.Maps.Views

import Derived.StillTailTactics

import Derived.Deep.RegionLaw

set_option linter.unusedVariables false

set_option linter.unusedSimpArgs false

namespace Go.Proofs.Ytnphhibfiklfjaa

open Go.RowKit Go.Maps

abbrev kl (k : ByteArray) : Lit := .string k.data.toList
/-- Each text once, in the order in which they came. -/
def addU (acc : List ByteArray) (k : ByteArray) : List ByteArray := if acc.any (fun x => (kl x).sameKey (kl k)) then acc else acc ++ [k]
def uniq (l : List ByteArray) : List ByteArray := l.foldl addU []
theorem uniq_snoc (l : List ByteArray) (k : ByteArray) : uniq (l ++ [k]) = addU (uniq l) k := by simp [uniq, List.foldl_append]
theorem addU_le (acc : List ByteArray) (k : ByteArray) : (addU acc k).length ≤ acc.length + 1 := by unfold addU; split <;> simp
theorem uniq_le (l : List ByteArray) : (uniq l).length ≤ l.length := by
  suffices h : ∀ (l acc : List ByteArray), (l.foldl addU acc).length ≤ acc.length + l.length by simpa [uniq] using h l []
  intro l
  induction l with
  | nil => intro acc; simp
  | cons k l ih =>
    intro acc
    have h1 := ih (addU acc k)
    have h2 := addU_le acc k
    simp only [List.foldl_cons, List.length_cons]
    omega
theorem kl_isKey (k : ByteArray) : WideAt.IsKeyLit (kl k) := by simp [WideAt.IsKeyLit]

theorem zeroUnit (w : World) : (zeroValue 89).run Try.prog w = .ok (.agg #[]) w := by kernel_rfl
/-- What the two captured variables hold. -/
structure KindsJ (D Mb Kb Lb : Nat) (l : List ByteArray) (W : World) : Prop where
  known : W.heap[Kb]? = some (.cells #[.map (some Mb)] 88 (0, 0))
  map : W.ownsMap Try.prog 9 (unitElem (H := Unit)) Mb (uniq l).length (setOf (.agg []) ((uniq l).map kl))
  lst : ∃ vp vl vc, W.heap[Lb]? = some (.cells #[.slice vp vl vc] 58 (0, 0)) ∧ W.ownsRow D 9 1 (.slice vp vl vc) (uniq l).length ((uniq l).map .string)

theorem kinds_step {D Mb Kb Lb : Nat} {l : List ByteArray} {k : ByteArray} {w1 w3 : World} {vp : Option Addr} {vl vc gg cap : Nat} (hord : Lb < Mb ∧ Mb < Kb ∧ Kb < D) (hu : uniq (l ++ [k]) = uniq l ++ [k])
    (hKn : w1.heap[Kb]? = some (.cells #[.map (some Mb)] 88 (0, 0))) (hmap : w1.ownsMap Try.prog 9 (unitElem (H := Unit)) Mb ((uniq l).length + 1) ((setOf (.agg []) ((uniq l).map kl)).put (kl k) (.agg [])))
    (hLs : w1.heap[Lb]? = some (.cells #[.slice vp vl vc] 58 (0, 0))) (hrow : w1.ownsRow D 9 1 (.slice vp vl vc) (uniq l).length ((uniq l).map .string))
    (h3 : w3.ownsRow D 9 1 (.slice (some ⟨gg, 0, none⟩) ((uniq l).length + 1) cap) ((uniq l).length + 1) ((uniq l).map .string ++ [.string k])) (hg : (w1.alloc (.cells #[.string k] 9)).grownBy w3 (Value.slice vp vl vc).ownBlock) :
    KindsJ D Mb Kb Lb (l ++ [k]) (w3.setCell ⟨Lb, 0, none⟩ (.slice (some ⟨gg, 0, none⟩) ((uniq l).length + 1) cap)) ∧ Keeps (fun b => b = Mb ∨ b = Lb ∨ D ≤ b) w1 (w3.setCell ⟨Lb, 0, none⟩ (.slice (some ⟨gg, 0, none⟩) ((uniq l).length + 1) cap)) := by
  have hlo : ∀ x, (Value.slice vp vl vc).ownBlock = some x → D ≤ x := fun x hx => (hrow.lt x hx).1
  have hK0 := heap_lt hKn
  have hL0 := heap_lt hLs
  have hgg : D ≤ gg := (h3.lt gg rfl).1
  have hne : ∀ x, x < D → some x ≠ (Value.slice vp vl vc).ownBlock := fun x hx e => by have := hlo x e.symm; omega
  have hK3 : w3.heap[Kb]? = some (.cells #[.map (some Mb)] 88 (0, 0)) := by rw [hg.block Kb (by simp; omega) (hne Kb (by omega)), Below.heap_alloc _ _ _ hK0]; exact hKn
  have hL3 : w3.heap[Lb]? = some (.cells #[.slice vp vl vc] 58 (0, 0)) := by rw [hg.block Lb (by simp; omega) (hne Lb (by omega)), Below.heap_alloc _ _ _ hL0]; exact hLs
  have hm3 := (hmap.alloc (.cells #[.string k] 9)).kept hg (hne Mb (by omega))
  refine ⟨⟨?_, ?_, some ⟨gg, 0, none⟩, (uniq l).length + 1, cap, ?_, ?_⟩, ?_⟩
  · rw [Below.heap_setCell _ _ _ _ (by show Kb ≠ Lb; omega)]; exact hK3
  · rw [hu, List.map_append, List.length_append]
    show World.ownsMap _ _ _ _ _ _ (setOf _ (_ ++ [kl k]))
    rw [setOf_snoc]
    exact hm3.setCell (by show Mb ≠ Lb; omega) _
  · rw [heap_set hL3]; rfl
  · rw [hu, List.map_append, List.length_append]
    exact ownsRow_same h3 (fun b hb => by
      simp only [Value.ownBlock, Option.toList_some, List.mem_singleton] at hb
      exact Below.heap_setCell _ _ _ _ (by show b ≠ Lb; omega))
  · exact ((((Keeps.refl _ w1).alloc _).grown hg (fun x hx _ => .inr (.inr (hlo x hx)))).setCell (p := ⟨Lb, 0, none⟩) (fun _ => .inr (.inl rfl)) _)
theorem Try.strInfo : (Try.prog.info? 9).map (fun i => (i.zero, i.size, i.bytes)) = some (some (.string ByteArray.empty), 1, 16) := by kernel_rfl
set_option maxRecDepth 100000 in
set_option maxHeartbeats 800000 in
theorem kinds1_any (A : Nat → Prop) (D Mb Kb Lb : Nat) (hord : Lb < Mb ∧ Mb < Kb ∧ Kb < D) (l : List ByteArray) (hl : l.length < 1024) (k : ByteArray) (n : Int) (t : ByteArray) (c : Fo) (b o : Nat) (cp : Option Addr) (cl cc : Nat) (w : World) (hb : b < w.heap.size) (hbl : b < Lb) (hDw : D ≤ w.heap.size) (hn : NodeAt w A b o k n t c cp cl cc) (hJ : KindsJ D Mb Kb Lb l w) :
    Calls Try.prog 59 #[.pointer (some ⟨b, o, none⟩), .pointer (some ⟨Kb, 0, none⟩), .pointer (some ⟨Lb, 0, none⟩)] w fun e w' => ∃ v, e = .returned v ∧ KindsJ D Mb Kb Lb (l ++ [k]) w' ∧ Keeps (fun b => b = Mb ∨ b = Lb ∨ D ≤ b) w w' := by
  obtain ⟨hkn, hmap, vp, vl, vc, hlst, hrow⟩ := hJ
  have c0 := hn.c0
  have hKb := heap_lt hkn
  have hLb := heap_lt hlst
  have k0 := (show w.cell? ⟨Kb, 0, none⟩ = _ by simp [World.cell?, hkn]; rfl)
  have hkey : keyOf Try.prog 9 (.string k) = some (kl k) := WideMaps.keyOf_string_mk Try.underlying9 (by have := hn.size.2; simp only [maxLen]; omega)
  obtain ⟨is, his⟩ : ∃ b, Maps.has (setOf (.agg []) ((uniq l).map kl) : DataW Unit) (kl k) = b := ⟨_, rfl⟩
  have hlkAll : ∀ W : World, W.ownsMap Try.prog 9 (unitElem (H := Unit)) Mb (uniq l).length (setOf (.agg []) ((uniq l).map kl)) → (Instr.lookup 88 (.map (some Mb)) (.string k) true).run Try.prog W = .ok (.tuple #[.agg #[], .bool is]) W := fun W hW => by
    obtain ⟨v, ps, hlk, hv⟩ := hW.look_ok (string_keyed Try.underlying9) Try.underlying88 (zeroUnit W) unitElem_mk hkey
    obtain ⟨rfl, _⟩ := unitElem_inv hv
    rw [his] at hlk
    exact hlk
  have hlk1 := hlkAll _ hmap.drew
  have hlk2 := hlkAll _ (hmap.alloc (.cells #[] 89)).drew
  clear hlkAll
  cases is with
  | true =>
    go_enter Try.func59, Try.ntmps59
    go_wp2_with fail
    go_region
    all_goals go_wp2_with fail
    all_goals go_end0
    all_goals
      refine ⟨_, rfl, ?_, ((Keeps.refl _ w).alloc _).drew⟩
      have hu : uniq (l ++ [k]) = uniq l := by
        rw [uniq_snoc, addU, if_pos]
        have := his
        rw [has_setOf _ _ _ (fun x hx => by obtain ⟨y, _, rfl⟩ := List.mem_map.1 hx; exact kl_isKey y), List.any_map] at this
        exact this
      refine ⟨?_, by rw [hu]; exact (hmap.alloc _).drew, vp, vl, vc, ?_, by rw [hu]; exact (hrow.alloc _).drew⟩
      · show (w.alloc _).heap[Kb]? = _
        rw [Below.heap_alloc _ _ _ hKb]; exact hkn
      · show (w.alloc _).heap[Lb]? = _
        rw [Below.heap_alloc _ _ _ hLb]; exact hlst
  | false =>
    go_enter Try.func59, Try.ntmps59
    go_wp2_with fail
    go_region
    all_goals
      go_wp2_with fail
      obtain ⟨W, hW⟩ : ∃ W, W = (w.alloc (.cells #[] 89)).drew := ⟨_, rfl⟩
      have hK : Keeps (fun _ => False) w W := by rw [hW]; exact ((Keeps.refl _ w).alloc _).drew
      have hmapW : W.ownsMap Try.prog 9 (unitElem (H := Unit)) Mb (uniq l).length (setOf (.agg []) ((uniq l).map kl)) := by rw [hW]; exact (hmap.alloc _).drew
      have hrowW : W.ownsRow D 9 1 (.slice vp vl vc) (uniq l).length ((uniq l).map .string) := by rw [hW]; exact (hrow.alloc _).drew
      have hknW := (hK.block _ hKb (fun h => h)).trans hkn
      have hlstW := (hK.block _ hLb (fun h => h)).trans hlst
      rw [← hW]
      have hnW := hn.keeps hK (fun _ _ h => h) hb (fun h => h)
      clear hW hlk1 hlk2 c0 k0
      have c0 := hnW.c0
      have hbW : b < W.heap.size := Nat.lt_of_lt_of_le hb hK.size
      have k0 := (show W.cell? ⟨Kb, 0, none⟩ = _ by simp [World.cell?, hknW]; rfl)
      have hun := uniq_le l
      go_still_tail 6, (by kernel_rfl)
      change wpList _ _ _ _ _ W.drew
      refine wpList_mapUpdate_own _ rfl _ _ _ 88 rfl 9 89 (string_keyed Try.underlying9) Try.underlying88 _ Mb (uniq l).length _ rfl hmapW.drew (by simp only [maxLen]; omega) _ _ _ rfl rfl hkey _ [] unitElem_mk ?_
      intro w1 hown1 hgrow1
      have hMb : Mb < W.heap.size := hmapW.lt
      have hg1 : W.grownBy w1 (some Mb) := ⟨hgrow1.os, hgrow1.tape, hgrow1.output, hgrow1.size, hgrow1.block⟩
      have hk1 : Keeps (fun b => b = Mb) W w1 := (Keeps.refl _ W).grown hg1 (fun x hx _ => by injection hx with hx; exact hx.symm)
      have hKn := (hk1.block _ (heap_lt hknW) (by omega)).trans hknW
      have hLs := (hk1.block _ (heap_lt hlstW) (by omega)).trans hlstW
      have hvM : (Value.slice vp vl vc).ownBlock = none ∨ (Value.slice vp vl vc).ownBlock ≠ some Mb := by
        cases ho : (Value.slice vp vl vc).ownBlock with
        | none => exact .inl rfl
        | some g => exact .inr (fun e => by injection e with e; have := (hrowW.lt g ho).1; omega)
      have hrow1 : w1.ownsRow D 9 1 (.slice vp vl vc) (uniq l).length ((uniq l).map .string) := hrowW.kept hg1 hvM
      have c0' := (hk1.cell (p := ⟨b, o, none⟩) hbW (by show b ≠ Mb; omega)).trans c0
      have l0 := (show w1.cell? ⟨Lb, 0, none⟩ = _ by simp [World.cell?, hLs]; rfl)
      have lf : w1.frozen? ⟨Lb, 0, none⟩ = false := by simp [World.frozen?, hLs]
      have hb1 : b < w1.heap.size := Nat.lt_of_lt_of_le hbW hk1.size
      have hL1 := heap_lt hLs
      have hD1 : D ≤ w1.heap.size := by have h1 := hK.size; have h2 := hk1.size; omega
      obtain ⟨i0, hi0, hz0, hz1, hz2⟩ := info_parts Try.strInfo
      have hvL : (Value.slice vp vl vc).ownBlock ≠ some Lb := fun e => by have := (hrow1.lt _ e).1; omega
      clear c0 k0
      go_wp2_with fail
      dsimp only [Act.put]
      go_region_law (refine step_append_lies _ (by rfl) _ _ _ (by rfl) D 9 i0 _ 1 16 Try.underlying58 hi0 hz0 hz1 hz2 rfl (by omega) (.slice vp vl vc) (uniq l).length ((uniq l).map .string) (by rfl) ((hrow1.alloc _).drew) ⟨w1.heap.size, 0, none⟩ 1 1 [.string k] (by rfl) (by rfl) (World.news_of_block (cs := #[.string k]) (t := 9) (fr := (0, 0)) (heap_alloc_new w1 _)) (by simp [Value.oneCell']) (by omega) (by simp only [maxLen]; omega) (by omega) (by simp; omega) (w1.heap.size + 1) (by simp) ?_; intro gg cap w3 hown3 hgrow3 hat3 hlt3; have hl3 : w3.cell? ⟨Lb, 0, none⟩ = some (.slice vp vl vc) := (hgrow3.cell_far ⟨Lb, 0, none⟩ (by simp; omega) (Ne.symm hvL)).trans ((World.cell?_alloc_past _ _ _ hL1).trans l0); have hf3 : w3.frozen? ⟨Lb, 0, none⟩ = false := (hgrow3.frozen_far ⟨Lb, 0, none⟩ (by simp; omega) (Ne.symm hvL)).trans ((World.frozen?_alloc_past _ _ _ hL1).trans lf))
      all_goals go_wp2_with fail
      all_goals go_end0
      all_goals
        have hu : uniq (l ++ [k]) = uniq l ++ [k] := by
            rw [uniq_snoc, addU, if_neg]
            have := his
            rw [has_setOf _ _ _ (fun x hx => by obtain ⟨y, _, rfl⟩ := List.mem_map.1 hx; exact kl_isKey y), List.any_map] at this
            rw [Bool.not_eq_true]
            exact this
        obtain ⟨h1, h2⟩ := kinds_step hord hu hKn hown1 hLs hrow1 hown3 ⟨hgrow3.os, hgrow3.tape, hgrow3.output, hgrow3.size, hgrow3.block⟩
        exact ⟨_, rfl, h1, (hK.mono (S' := fun b => b = Mb ∨ b = Lb ∨ D ≤ b) (fun _ h _ => h.elim)).trans ((hk1.mono (fun _ h _ => .inl h)).trans h2)⟩
end Go.Proofs.Ytnphhibfiklfjaa
