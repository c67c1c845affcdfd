/-
  (*espalierlaw4.Paths).Take: its walk.
-/
import Derived.Test.YtnphhibfiklfjaaNestP
import Derived.Deep.RegionHeld3
import Derived.Deep.RegionLaw
import Derived.Deep.LoopGhost
import Derived.StillTailTactics
import Derived.Deep.Cut
import Derived.IntWalk
set_option linter.unusedVariables false
set_option linter.unusedSimpArgs false
namespace Go.Proofs.Ytnphhibfiklfjaa
open Go.RowKit

set_option maxRecDepth 100000 in
set_option maxHeartbeats 6400000 in
/-- No path: nothing is done. -/
theorem Take_none (pb vc : Nat) (vp : Option Addr) (w : World) : Calls Try.prog 18 #[.pointer (some ⟨pb, 0, none⟩), .slice vp 0 vc] w fun e w' => (∃ v, e = .returned v) ∧ w = w' := by
  go_enter Try.func18, Try.ntmps18
  go_wp2_with fail
  go_loopg [4] 0 (fun m i W => i = .int .i64 0 ∧ W = w)
  case atStart => exact ⟨rfl, rfl⟩
  case round =>
    obtain ⟨rfl, rfl⟩ := hrel
    go_wp2_with fail
    go_end0
    exact ⟨⟨_, rfl⟩, rfl⟩
theorem boxP {W : World} {b : Nat} {v0 v1 v2 v3 : Value} {T : TypeId} (h : W.heap[b]? = some (.cells #[v0, v1, v2, v3] T (0, 0))) : W.cell? ⟨b, 0, none⟩ = some v0 ∧ W.cell? ⟨b, 1, none⟩ = some v1 ∧ W.cell? ⟨b, 2, none⟩ = some v2 ∧ W.frozen? ⟨b, 0, none⟩ = false ∧ W.frozen? ⟨b, 1, none⟩ = false ∧ W.frozen? ⟨b, 2, none⟩ = false := by
  simp [World.cell?, World.frozen?, h]
/-- What taking one path leaves. -/
def TakeR (D pb : Nat) (L : List PRow) (sz : Int) (lv nv : Value) (pp : Option Addr) (pl : Nat) (w W : World) : Prop :=
  ∃ L' lv' nv', PathsAt D W pb L' sz lv' nv' ∧ (L' = L ∨ ∃ r : PRow, L' = L ++ [r] ∧ r.n = pl ∧ ∃ o s, pp = some ⟨r.g, o, s⟩) ∧ Keeps (fun b => b = pb ∨ lv.ownBlock = some b ∨ nv.ownBlock = some b ∨ ∃ o s, pp = some ⟨b, o, s⟩) w W ∧
    (∀ b, lv'.ownBlock = some b → lv.ownBlock = some b ∨ w.heap.size ≤ b) ∧ (∀ b, nv'.ownBlock = some b → nv.ownBlock = some b ∨ w.heap.size ≤ b)
/-- Both lists are grown, the path's places are yet to be written. -/
theorem take_done {D pb : Nat} {L : List PRow} {sz : Int} {lv nv : Value} {g pl pc : Nat} {w V V1 V2 W : World} {g1 c1 g2 c2 : Nat} (h : PathsAt D V pb L sz lv nv) (hpb : pb < D) (hk0 : Keeps (fun b => b = pb) w V) (hgD : D ≤ g) (hgL : g ∉ L.map PRow.g) (hgn : nv.ownBlock ≠ some g)
    (hgl : lv.ownBlock ≠ some g) (hgV : g < w.heap.size)
    (hb2 : V2.heap[pb]? = some (.cells #[.slice (some ⟨g1, 0, none⟩) (L.length + 1) c1, .slice (some ⟨g2, 0, none⟩) (L.length + 1) c2, .int .i64 sz, .slice none 0 0] 44 (0, 0)))
    (hr1 : V1.ownsRow D 32 1 (.slice (some ⟨g1, 0, none⟩) (L.length + 1) c1) (L.length + 1) (L.map PRow.val ++ [.slice (some ⟨g, 0, none⟩) pl pc])) (hk1 : Keeps (fun b => b = pb ∨ lv.ownBlock = some b) V V1) (hat1 : lv.ownBlock = some g1 ∨ V.heap.size ≤ g1)
    (hr2 : V2.ownsRow D 3 1 (.slice (some ⟨g2, 0, none⟩) (L.length + 1) c2) (L.length + 1) ((L.map fun r => .int .i64 (r.n : Int)) ++ [.int .i64 (pl : Int)])) (hk2 : Keeps (fun b => b = pb ∨ nv.ownBlock = some b) V1 V2) (hat2 : nv.ownBlock = some g2 ∨ V1.heap.size ≤ g2)
    (hr3 : W.ownsRow 0 3 1 (.slice (some ⟨g, 0, none⟩) pl pc) pl (List.replicate pl (.int .i64 (-2 * ((L.length : Int) + 1))))) (hk3 : Keeps (fun b => b = g) V2 W) :
    TakeR D pb L sz lv nv (some ⟨g, 0, none⟩) pl w W := by
  have s0 := hk0.size
  have s1 := hk1.size
  have s2 := hk2.size
  have hnl : ∀ b, nv.ownBlock = some b → lv.ownBlock ≠ some b := fun b hb => rows_ne h.lens h.row (by decide) hb
  have hrn : ∀ r ∈ L, ∀ i, r.ok V i → lv.ownBlock ≠ some r.g := fun r _ i hr => rows_ne hr h.row (by decide) rfl
  have hlo : ∀ b, lv.ownBlock = some b → D ≤ b := fun b hb => (h.row.lt b hb).1
  have hno : ∀ b, nv.ownBlock = some b → D ≤ b := fun b hb => (h.lens.lt b hb).1
  have hg2 : g2 ≠ g := fun e => by
    rcases hat2 with h1 | h1
    · exact hgn (e ▸ h1)
    · omega
  have hg1 : g1 ≠ g := fun e => by
    rcases hat1 with h1 | h1
    · exact hgl (e ▸ h1)
    · omega
  have hg12 : nv.ownBlock ≠ some g1 := fun e => by
    rcases hat1 with h1 | h1
    · exact hnl g1 e h1
    · have := (h.lens.lt g1 e).2; omega
  refine ⟨L ++ [⟨g, pl, pc⟩], .slice (some ⟨g1, 0, none⟩) (L.length + 1) c1, .slice (some ⟨g2, 0, none⟩) (L.length + 1) c2, ⟨?_, ?_, ?_, ?_, ?_, ?_, ?_⟩, Or.inr ⟨⟨g, pl, pc⟩, rfl, rfl, 0, none, rfl⟩, ?_, fun b hb => ?_, fun b hb => ?_⟩
  · exact (hk3.block _ (heap_lt hb2) (by omega)).trans hb2
  · rw [List.length_append, List.map_append]
    refine ownsRow_same hr1 (fun b hb => ?_)
    have hb' : b = g1 := by simpa [Value.ownBlock] using hb
    subst hb'
    have hlt := hr1.lt b rfl
    exact (hk3.block b (by omega) hg1).trans (hk2.block b hlt.2 (fun e => e.elim (fun e => by omega) hg12))
  · rw [List.length_append, List.map_append]
    refine ownsRow_same hr2 (fun b hb => ?_)
    have hb' : b = g2 := by simpa [Value.ownBlock] using hb
    subst hb'
    exact hk3.block b (hr2.lt b rfl).2 hg2
  · intro i r hr
    by_cases hi : i < L.length
    · rw [List.getElem?_append_left hi] at hr
      have hm := List.mem_of_getElem? hr
      have h1 := h.rows i r hr
      have h2 := h.lo r hm
      have h3 := h1.lt
      refine h1.same ?_
      rw [hk3.block _ (by omega) (fun e => hgL (List.mem_map.2 ⟨r, hm, e⟩)), hk2.block _ (by omega) (fun e => e.elim (fun e => by omega) (h.ne r hm)), hk1.block _ h3 (fun e => e.elim (fun e => by omega) (hrn r hm i h1))]
    · by_cases hij : i = L.length
      · subst hij
        rw [List.getElem?_append_right (by omega), Nat.sub_self] at hr
        simp only [List.getElem?_cons_zero, Option.some.injEq] at hr
        subst hr
        exact hr3
      · rw [List.getElem?_eq_none (by simp; omega)] at hr
        simp at hr
  · rw [List.map_append]
    refine List.nodup_append.2 ⟨h.apart, by simp, fun a ha b hb e => ?_⟩
    simp only [List.map_cons, List.map_nil, List.mem_singleton] at hb
    subst hb
    exact hgL (e ▸ ha)
  · intro r hr
    rcases List.mem_append.1 hr with hr | hr
    · exact h.lo r hr
    · simp only [List.mem_singleton] at hr; subst hr; exact hgD
  · intro r hr e
    have e : g2 = r.g := by simpa [Value.ownBlock] using e
    rcases List.mem_append.1 hr with hr | hr
    · rcases hat2 with h1 | h1
      · exact h.ne r hr (e ▸ h1)
      · obtain ⟨i, hi⟩ := List.getElem?_of_mem hr
        have := (h.rows i r hi).lt
        omega
    · simp only [List.mem_singleton] at hr; subst hr; exact hg2 e
  · refine (((hk0.mono (S' := fun b => b = pb ∨ lv.ownBlock = some b ∨ nv.ownBlock = some b ∨ ∃ o s, some (⟨g, 0, none⟩ : Addr) = some ⟨b, o, s⟩) (fun b hb _ => .inl hb)).trans' hk1 (fun b hb _ => hb.imp_right .inl)).trans' hk2 (fun b hb _ => hb.imp_right (fun h => .inr (.inl h)))).trans' hk3 (fun b hb _ => ?_)
    subst hb
    exact .inr (.inr (.inr ⟨0, none, rfl⟩))
  · have e : g1 = b := by simpa [Value.ownBlock] using hb
    subst e
    exact hat1.imp_right (fun h => by omega)
  · have e : g2 = b := by simpa [Value.ownBlock] using hb
    subst e
    exact hat2.imp_right (fun h => by omega)
/-- The list of paths is one longer. -/
def GrownL (D pb : Nat) (L : List PRow) (x lv nv : Value) (sz : Int) (V W : World) : Prop := ∃ g1 c1, W.heap[pb]? = some (.cells #[.slice (some ⟨g1, 0, none⟩) (L.length + 1) c1, nv, .int .i64 sz, .slice none 0 0] 44 (0, 0)) ∧
  W.ownsRow D 32 1 (.slice (some ⟨g1, 0, none⟩) (L.length + 1) c1) (L.length + 1) (L.map PRow.val ++ [x]) ∧ Keeps (fun b => b = pb ∨ lv.ownBlock = some b) V W ∧ (lv.ownBlock = some g1 ∨ V.heap.size ≤ g1)
/-- The list of lengths is one longer. -/
def GrownN (D pb : Nat) (L : List PRow) (pl : Nat) (l1 nv : Value) (sz : Int) (V W : World) : Prop := ∃ g1 c1, W.heap[pb]? = some (.cells #[l1, .slice (some ⟨g1, 0, none⟩) (L.length + 1) c1, .int .i64 sz, .slice none 0 0] 44 (0, 0)) ∧
  W.ownsRow D 3 1 (.slice (some ⟨g1, 0, none⟩) (L.length + 1) c1) (L.length + 1) ((L.map fun r => .int .i64 (r.n : Int)) ++ [.int .i64 (pl : Int)]) ∧ Keeps (fun b => b = pb ∨ nv.ownBlock = some b) V W ∧ (nv.ownBlock = some g1 ∨ V.heap.size ≤ g1)
theorem wrap_mark (n : Nat) (h : n ≤ 1000000) : IntKind.i64.wrap (-2 * ((n : Int) + 1)) = -2 * ((n : Int) + 1) := IntWalk.i64_in _ (by omega)
theorem Try.rowInfo' : (Try.prog.info? 32).map (fun i => (i.zero, i.size, i.bytes)) = some (some (.slice none 0 0), 1, 24) := by kernel_rfl
theorem Try.intInfo' : (Try.prog.info? 3).map (fun i => (i.zero, i.size, i.bytes)) = some (some (.int .i64 0), 1, 8) := by kernel_rfl
set_option maxRecDepth 100000 in
set_option maxHeartbeats 6400000 in
theorem Take_one (D pb : Nat) (L : List PRow) (sz : Int) (lv nv : Value) (vb : Nat) (p : List Int) (pp : Option Addr) (pl pc : Nat) (w : World) (h : PathsAt D w pb L sz lv nv) (hv : w.heap[vb]? = some (.cells #[.slice pp pl pc] 32 (0, 0))) (hpb : pb < D) (hvb : vb ≠ pb)
    (hsz0 : 0 ≤ sz) (hsz1 : sz ≤ 281474976710656) (hpl : pl ≤ 1000) (hr : Row w (.slice pp pl pc) p) (hgv : pp.map Addr.block ≠ some vb) (hL : L.length ≤ 1000000) (hDw : D ≤ w.heap.size) (hlv : lv.ownBlock ≠ some vb) (hnv : nv.ownBlock ≠ some vb)
    (hnew : ∀ g, (Value.slice pp pl pc).ownBlock = some g → D ≤ g ∧ g ∉ L.map PRow.g ∧ nv.ownBlock ≠ some g) :
    Calls Try.prog 18 #[.pointer (some ⟨pb, 0, none⟩), .slice (some ⟨vb, 0, none⟩) 1 1] w fun e w' => (∃ v, e = .returned v) ∧ TakeR D pb L (sz + 4 + roomF pl pc) lv nv pp pl w w' := by
  have hpc : pl ≤ pc ∧ pc ≤ 9223372036854775807 ∧ pl = p.length := by
    rcases hr.form with ⟨he, rfl⟩ | ⟨g, cap, cur, he, h1, h2, h3, h4, h5⟩
    · simp only [Value.slice.injEq] at he; obtain ⟨rfl, rfl, rfl⟩ := he; exact ⟨Nat.le_refl _, by omega, rfl⟩
    · simp only [Value.slice.injEq] at he; obtain ⟨rfl, rfl, rfl⟩ := he; unfold maxLen at h4; exact ⟨h3, by omega, rfl⟩
  obtain ⟨hpc, hpc2, hplen⟩ := hpc
  obtain ⟨b0, b1, b2, f0, f1, f2⟩ := boxP h.box
  have c0 : w.cell? ⟨vb, 0, none⟩ = some (.slice pp pl pc) := by simp [World.cell?, hv]
  have hR : Hid (∀ W, Calls Try.prog 45 #[.int .i64 (pl : Int), .int .i64 (pc : Int)] W fun e w' => e = .returned (.int .i64 (roomF pl pc)) ∧ w' = W) := Lib.hid fun W => (Room_any pl pc (by omega) (by omega) W).mono fun _ _ ⟨a, b⟩ => ⟨a, b.symm⟩
  obtain ⟨rm, hrm⟩ : ∃ rm, roomF pl pc = rm := ⟨_, rfl⟩
  have hrm0 : 0 ≤ rm ∧ rm ≤ 71000 := by rw [← hrm, roomF]; split <;> omega
  obtain ⟨hrm0, hrm1⟩ := hrm0
  rw [hrm] at hR ⊢
  have hwrap : IntKind.i64.wrap (IntKind.i64.wrap (sz + 4) + rm) = sz + 4 + rm := by simp only [IntKind.wrap_i64]; omega
  have HH := Lib.hid h
  have HPL := Lib.hid hplen
  have HROW := Lib.hid hr
  have HNEW := Lib.hid hnew
  clear hrm h hplen hr hnew
  go_enter Try.func18, Try.ntmps18
  go_wp2_with fail
  go_loopg [4] 1 (fun m i W => (m = 1 ∧ i = .int .i64 0 ∧ W = w) ∨ (m = 0 ∧ i = .int .i64 1 ∧ TakeR D pb L (sz + 4 + rm) lv nv pp pl w W))
  case atStart => exact .inl ⟨rfl, rfl, rfl⟩
  case round =>
    rcases hrel with ⟨hm, rfl, rfl⟩ | ⟨hm, rfl, hk⟩
    · go_wp2_with fail
      go_still_tail 20, (by kernel_rfl)
      still_call (hR.out _)
      repeat still_step
      refine wpStill_nil ?_
      obtain ⟨V, hV⟩ : ∃ V, V = (wr.setCell ⟨pb, 2, none⟩ (.int .i64 (sz + 4 + rm))).drew := ⟨_, rfl⟩
      have hkV : Keeps (fun b => b = pb) wr V := by rw [hV]; exact ((Keeps.refl (fun b => b = pb) wr).setCell (p := ⟨pb, 2, none⟩) (fun _ => rfl) _).drew
      have hPV : PathsAt D V pb L (sz + 4 + rm) lv nv := by
        rw [hV]
        exact (HH.out.count hpb (sz + 4 + rm)).keeps (S := fun _ => False) ((Keeps.refl _ _).drew) (fun h => h) (fun _ h => h.elim)
      have hvV := (hkV.block _ (heap_lt hv) hvb).trans hv
      have hskip : Hid (TakeR D pb L (sz + 4 + rm) lv nv pp pl wr V) := Lib.hid ⟨L, lv, nv, hPV, .inl rfl, hkV.mono (fun b hb _ => .inl hb), fun b hb => .inl hb, fun b hb => .inl hb⟩
      have HVV := Lib.hid hV
      have HKV := Lib.hid hkV
      have HPV := Lib.hid hPV
      have HHV := Lib.hid hvV
      change wpList _ _ _ _ _ wr.drew
      clear hV hkV hPV hvV
      go_upto_region 4 with fail
      rw [← HVV.out]
      clear b0 b1 b2 f0 f1 f2 c0 hR HVV
      obtain ⟨b0, b1, b2, f0, f1, f2⟩ := boxP HPV.out.box
      have c0 : V.cell? ⟨vb, 0, none⟩ = some (.slice pp pl pc) := by simp [World.cell?, HHV.out]
      by_cases hp0 : pc = 0
      · have hq : ((pc : Int) == 0) = true := by simp [hp0]
        go_wp2_with fail
        go_roundg 0
        case measure => omega
        case rel => exact .inr ⟨rfl, rfl, hskip.out⟩
      · have hq : ((pc : Int) == 0) = false := by simp; omega
        by_cases hbig : 2097152 < sz + 4 + rm
        · go_wp2_with fail
          go_roundg 0
          case measure => omega
          case rel => exact .inr ⟨rfl, rfl, hskip.out⟩
        · obtain ⟨g, hpp⟩ : ∃ g, pp = some ⟨g, 0, none⟩ ∧ 0 < pl := by
            rcases HROW.out.form with ⟨he, _⟩ | ⟨g, cap, cur, he, h1, _⟩
            · simp only [Value.slice.injEq] at he; omega
            · simp only [Value.slice.injEq] at he; exact ⟨g, he.1, by omega⟩
          obtain ⟨rfl, hpl0⟩ := hpp
          obtain ⟨i0, hi0, hz0, hz1, hz2⟩ := info_parts Try.rowInfo'
          have hrow := HPV.out.row
          have hDV : D ≤ V.heap.size := by have := HKV.out.size; omega
          have hlp : lv.ownBlock ≠ some pb := fun e => by have := (hrow.lt _ e).1; omega
          have hpV := heap_lt HPV.out.box
          have hvV := heap_lt HHV.out
          have hS : Hid (∀ W', Keeps (fun _ => False) V W' → W'.cell? ⟨pb, 0, none⟩ = some lv ∧ W'.cell? ⟨vb, 0, none⟩ = some (.slice (some ⟨g, 0, none⟩) pl pc)) := Lib.hid fun W' hk => ⟨(hk.cell (p := ⟨pb, 0, none⟩) hpV (fun h => h)).trans b0, (hk.cell (p := ⟨vb, 0, none⟩) hvV (fun h => h)).trans c0⟩
          have hkV0 : Keeps (fun _ => False) V V := Keeps.refl _ _
          have hrow0 := hrow
          have hp0' := hp0
          clear hp0
          have hp0 := hlp
          have hq0 := hlv
          clear hlp hrow
          have HF0 := Lib.hid hq
          have HS0 := Lib.hid hS
          go_wp2_with fail
          go_cut [] from 6 (GrownL D pb L (.slice (some ⟨g, 0, none⟩) pl pc) lv nv (sz + 4 + rm) V)
          case first =>
            go_region_law ((refine step_append_lies _ (by rfl) _ _ _ (by rfl) D 32 i0 _ 1 24 Try.underlying31 hi0 hz0 hz1 hz2 rfl (by omega) lv L.length (L.map PRow.val) (by rfl) (by first | exact (hrow0.alloc _).drew | exact World.ownsRow.alloc hrow0.drew _) ⟨V.heap.size, 0, none⟩ 1 1 [.slice (some ⟨g, 0, none⟩) pl pc] (by rfl) (by rfl) (World.news_of_block (cs := #[.slice (some ⟨g, 0, none⟩) pl pc]) (t := 32) (fr := (0, 0)) (heap_alloc_new V _)) (by simp [Value.oneCell']) (by omega) (by simp only [maxLen]; omega) (by omega) (by simp; omega) (V.heap.size + 1) (by simp) ?_; intro g1 c1 w1 hown1 hgrow1 hat1 hlt1; have hl1 : w1.cell? ⟨pb, 0, none⟩ = some lv := (hgrow1.cell_far ⟨pb, 0, none⟩ (by simp; omega) (Ne.symm hp0)).trans ((World.cell?_alloc_past _ _ _ hpV).trans b0); have hf1 : w1.frozen? ⟨pb, 0, none⟩ = false := (hgrow1.frozen_far ⟨pb, 0, none⟩ (by simp; omega) (Ne.symm hp0)).trans ((World.frozen?_alloc_past _ _ _ hpV).trans f0); have hv1 : w1.cell? ⟨vb, 0, none⟩ = some (.slice (some ⟨g, 0, none⟩) pl pc) := (hgrow1.cell_far ⟨vb, 0, none⟩ (by simp; omega) (Ne.symm hq0)).trans ((World.cell?_alloc_past _ _ _ hvV).trans c0)))
            all_goals go_wp2_with fail
            all_goals
              obtain ⟨q1, q2, q3⟩ := push_cell (i := 0) HPV.out.box hpb HPV.out.row (show (V.alloc (.cells #[.slice (some ⟨g, 0, none⟩) pl pc] 32)).grownBy w1 lv.ownBlock from ⟨hgrow1.os, hgrow1.tape, hgrow1.output, hgrow1.size, hgrow1.block⟩) hown1
              go_meet
              case rel => exact ⟨g1, c1, q1, q2, q3, hat1.imp_right (fun h => by omega)⟩
          case rest =>
            obtain ⟨V1, hV1⟩ : ∃ V1, V1 = wc := ⟨_, rfl⟩
            subst hV1
            obtain ⟨g1, c1, q1, q2, q3, q4⟩ := hcut
            have hDV1 : D ≤ V1.heap.size := by have := q3.size; omega
            have hrow1 : V1.ownsRow D 3 1 nv L.length (L.map fun r => .int .i64 (r.n : Int)) := ownsRow_same HPV.out.lens (fun b hb => by
              have hb' : nv.ownBlock = some b := by simpa using hb
              have h1 := HPV.out.lens.lt b hb'
              exact q3.block b h1.2 (fun e => e.elim (fun e => by omega) (rows_ne HPV.out.lens HPV.out.row (by decide) hb')))
            have hv1 := (q3.block vb hvV (fun e => e.elim hvb hq0)).trans HHV.out
            have hp1 : nv.ownBlock ≠ some pb := fun e => by have := (hrow1.lt _ e).1; omega
            have hq1 := hnv
            have hpV := heap_lt q1
            have hvV := heap_lt hv1
            obtain ⟨i1, hi1, hy0, hy1, hy2⟩ := info_parts Try.intInfo'
            have HQ1 := Lib.hid q1
            have HQ2 := Lib.hid q2
            have HQ3 := Lib.hid q3
            have HV1 := Lib.hid hv1
            clear b0 b1 b2 f0 f1 f2 c0 hp0 hq0 hrow0
            obtain ⟨b0, b1, b2, f0, f1, f2⟩ := boxP q1
            have c0 : V1.cell? ⟨vb, 0, none⟩ = some (.slice (some ⟨g, 0, none⟩) pl pc) := by simp [World.cell?, hv1]
            clear q1 q2 q3 hv1
            go_wp2_with fail
            go_cut [] from 6 (GrownN D pb L pl (.slice (some ⟨g1, 0, none⟩) (L.length + 1) c1) nv (sz + 4 + rm) V1)
            case first =>
              go_region_law ((refine step_append_lies _ (by rfl) _ _ _ (by rfl) D 3 i1 _ 1 8 Try.underlying32 hi1 hy0 hy1 hy2 rfl (by omega) nv L.length (L.map fun r => .int .i64 (r.n : Int)) (by rfl) (by first | exact (hrow1.alloc _).drew | exact World.ownsRow.alloc hrow1.drew _) ⟨V1.heap.size, 0, none⟩ 1 1 [.int .i64 (pl : Int)] (by rfl) (by rfl) (World.news_of_block (cs := #[.int .i64 (pl : Int)]) (t := 3) (fr := (0, 0)) (heap_alloc_new V1 _)) (by simp [Value.oneCell']) (by omega) (by simp only [maxLen]; omega) (by omega) (by simp; omega) (V1.heap.size + 1) (by simp) ?_; intro g2 c2 w2 hown2 hgrow2 hat2 hlt2; have hl2 : w2.cell? ⟨pb, 1, none⟩ = some nv := (hgrow2.cell_far ⟨pb, 1, none⟩ (by simp; omega) (Ne.symm hp1)).trans ((World.cell?_alloc_past _ _ _ hpV).trans b1); have hf2 : w2.frozen? ⟨pb, 1, none⟩ = false := (hgrow2.frozen_far ⟨pb, 1, none⟩ (by simp; omega) (Ne.symm hp1)).trans ((World.frozen?_alloc_past _ _ _ hpV).trans f1); have hv2 : w2.cell? ⟨vb, 0, none⟩ = some (.slice (some ⟨g, 0, none⟩) pl pc) := (hgrow2.cell_far ⟨vb, 0, none⟩ (by simp; omega) (Ne.symm hq1)).trans ((World.cell?_alloc_past _ _ _ hvV).trans c0)))
              all_goals go_wp2_with fail
              all_goals
                obtain ⟨p1, p2, p3⟩ := push_cell (i := 1) HQ1.out hpb hrow1 (show (V1.alloc (.cells #[.int .i64 (pl : Int)] 3)).grownBy w2 nv.ownBlock from ⟨hgrow2.os, hgrow2.tape, hgrow2.output, hgrow2.size, hgrow2.block⟩) hown2
                go_meet
                case rel => exact ⟨g2, c2, p1, p2, p3, hat2.imp_right (fun h => by omega)⟩
            case rest =>
              obtain ⟨V2, hV2⟩ : ∃ V2, V2 = wc := ⟨_, rfl⟩
              subst hV2
              obtain ⟨g2, c2, p1, p2, p3, p4⟩ := hcut
              have hv2 := (p3.block vb hvV (fun e => e.elim hvb hq1)).trans HV1.out
              have hrg := HROW.out
              have hgD := HNEW.out g rfl
              have hgw := hrg.lt (g := g) rfl
              have hgl : lv.ownBlock ≠ some g := rows_ne hrg.own HH.out.row (by decide) rfl
              have hgvb : g ≠ vb := fun e => hgv (by rw [e]; rfl)
              have hgpb : g ≠ pb := Nat.ne_of_gt (Nat.lt_of_lt_of_le hpb hgD.1)
              have hgV : g < V.heap.size := Nat.lt_of_lt_of_le hgw HKV.out.size
              have hrV : V.ownsRow 0 3 1 (.slice (some ⟨g, 0, none⟩) pl pc) pl (p.map vint) := by
                have h1 := ownsRow_same (w1 := V) hrg.own (fun b hb => by
                  have hb' : b = g := by simpa [Value.ownBlock] using hb
                  subst hb'
                  exact HKV.out.block b hgw hgpb)
                rw [HPL.out]; rwa [HPL.out] at h1
              have hr2 : V2.ownsRow 0 3 1 (.slice (some ⟨g, 0, none⟩) pl pc) pl (p.map vint) := ownsRow_same hrV (fun b hb => by
                have hb' : b = g := by simpa [Value.ownBlock] using hb
                subst hb'
                rw [p3.block b (Nat.lt_of_lt_of_le hgV HQ3.out.size) (fun e => e.elim hgpb hgD.2.2), HQ3.out.block b hgV (fun e => e.elim hgpb hgl)])
              have HP1 := Lib.hid p1
              have HP2 := Lib.hid p2
              have HP3 := Lib.hid p3
              have HV2 := Lib.hid hv2
              have HR2 := Lib.hid hr2
              have HGD := Lib.hid hgD
              clear p1 p2 p3 hv2 hr2 hrV hrg b0 b1 b2 f0 f1 f2 c0 hgD
              go_wp2_with fail
              go_loopg [5] pl (fun m i W => ∃ j : Nat, j + m = pl ∧ i = .int .i64 j ∧ W.ownsRow 0 3 1 (.slice (some ⟨g, 0, none⟩) pl pc) pl (List.replicate j (.int .i64 (-2 * ((L.length : Int) + 1))) ++ (p.map vint).drop j) ∧ Keeps (fun b => b = g) V2 W)
              case atStart => exact ⟨0, by omega, rfl, by simpa using HR2.out, Keeps.refl _ _⟩
              case round =>
                obtain ⟨j, hjm, rfl, hrw, hkw⟩ := hrel
                have HJ := Lib.hid hjm
                have HRW := Lib.hid hrw
                have HKW := Lib.hid hkw
                clear hjm hrw hkw
                obtain ⟨b0, b1, b2, f0, f1, f2⟩ := boxP ((HKW.out.block pb (heap_lt HP1.out) (fun e => hgpb e.symm)).trans HP1.out)
                have c0 : wr.cell? ⟨vb, 0, none⟩ = some (.slice (some ⟨g, 0, none⟩) pl pc) := by simp [World.cell?, (HKW.out.block vb (heap_lt HV2.out) (fun e => hgvb e.symm)).trans HV2.out]
                by_cases hlt : j < pl
                · have hmul := wrap_mark L.length hL
                  have hfz : wr.frozen? ⟨g, j, none⟩ = false := by
                    obtain ⟨_, cur, hh⟩ := ownsRow_blk HRW.out rfl
                    simp [World.frozen?, hh]
                  obtain ⟨v0, hc0⟩ : ∃ v0, wr.cell? ⟨g, j, none⟩ = some v0 := by
                    obtain ⟨v0, hv0⟩ : ∃ v0, (List.replicate j (Value.int .i64 (-2 * ((L.length : Int) + 1))) ++ (p.map vint).drop j)[j]? = some v0 := ⟨_, List.getElem?_eq_getElem (by have := HPL.out; simp; omega)⟩
                    have := HRW.out.cells (g := g) rfl j v0 hv0
                    rw [add0] at this
                    exact ⟨v0, this⟩
                  have hset : Hid ((wr.setCell ⟨g, j, none⟩ (.int .i64 (-2 * ((L.length : Int) + 1)))).ownsRow 0 3 1 (.slice (some ⟨g, 0, none⟩) pl pc) pl (List.replicate (j + 1) (.int .i64 (-2 * ((L.length : Int) + 1))) ++ (p.map vint).drop (j + 1)) ∧ Keeps (fun b => b = g) V2 (wr.setCell ⟨g, j, none⟩ (.int .i64 (-2 * ((L.length : Int) + 1))))) := Lib.hid ⟨by
                    have h1 := ownsRow_set HRW.out j hlt (.int .i64 (-2 * ((L.length : Int) + 1)))
                    rwa [fill_step _ _ _ (by rw [List.length_map, ← HPL.out]; exact hlt)] at h1, HKW.out.setCell (p := ⟨g, j, none⟩) (fun _ => rfl) _⟩
                  go_wp2_with fail
                  go_still_tail 12, (by kernel_rfl)
                  change wpList _ _ _ _ _ wr.drew
                  go_wp2_with fail
                  go_roundg (gk - 1)
                  case measure => have := HJ.out; omega
                  case rel => exact ⟨j + 1, by have := HJ.out; omega, by go_num, hset.out.1, hset.out.2.drew⟩
                · have hjl : Hid (j = pl) := by have := HJ.out; show j = pl; omega
                  go_wp2_with fail
                  go_roundg 0
                  case measure => omega
                  case rel =>
                    refine .inr ⟨rfl, rfl, take_done HPV.out hpb HKV.out HGD.out.1 HGD.out.2.1 HGD.out.2.2 hgl hgw HP1.out HQ2.out HQ3.out q4 HP2.out HP3.out p4 ?_ HKW.out⟩
                    have := HRW.out
                    rw [hjl.out, List.drop_of_length_le (by rw [List.length_map, ← HPL.out]; omega), List.append_nil] at this
                    exact this
    · have HK := Lib.hid hk
      clear hk
      go_wp2_with fail
      go_end0
      exact ⟨⟨_, rfl⟩, HK.out⟩
end Go.Proofs.Ytnphhibfiklfjaa
