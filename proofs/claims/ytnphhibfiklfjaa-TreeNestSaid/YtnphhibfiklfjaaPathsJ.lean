/-
  espalierlaw4.TreePaths: what the rounds of its range keep: the list of paths.
-/
import Derived.Test.YtnphhibfiklfjaaAhead
import Derived.Test.YtnphhibfiklfjaaGreat
set_option linter.unusedVariables false
set_option linter.unusedSimpArgs false
namespace Go.Proofs.Ytnphhibfiklfjaa
open Go.RowKit

/-- append in a round: where the new slice lies. -/
theorem wpListIn_append_lies {F : Fence} {nn : Nat} {P : Program} (w : World) {ops : Array Oper} {rest : List Oper} {o : Oper} {a : Act} {Q : Exit → Act → World → Prop}
    (hgd : o.guard = none) (s x : Operand) (t : TypeId) (ho : o.op = .call { callee := .builtin .append, args := #[s, x], argTypes := #[t, t] })
    (base : Nat) (e : TypeId) (i : TypeInfo) (z : Value) (size bytes : Nat) (ht : P.underlying t = some (.slice e)) (hi : P.info? e = some i) (hz : i.zero = some z)
    (hsize : i.size = size) (hby : i.bytes = bytes) (hzs : z.cells.size = size) (hsz : 0 < size)
    (v : Value) (n : Nat) (xs : List Value) (hs : a.eval s = v) (hown : w.ownsRow base e size v n xs)
    (ad : Addr) (m c : Nat) (news : List Value) (hx : a.eval x = .slice (some ad) m c) (hl : news.length = m * size) (hnews : ∀ j u, news[j]? = some u → w.cell? (ad.add j) = some u) (h1 : ∀ u ∈ news, u.oneCell' = true)
    (hm : 0 < m) (h63 : n + m ≤ maxLen) (hbytes : (n + m) * bytes ≤ 140737488355328) (hbase : base ≤ w.heap.size) (H : Nat) (hH : w.heap.size = H)
    (h : ∀ g cap w', w'.ownsRow base e size (.slice (some ⟨g, 0, none⟩) (n + m) cap) (n + m) (xs ++ news) → w.grownBy w' v.ownBlock → (v.ownBlock = some g ∨ g = H) → g < w'.heap.size → wpListIn F nn P ops Q rest (a.put o.dst (.slice (some ⟨g, 0, none⟩) (n + m) cap)) w') : wpListIn F nn P ops Q (o :: rest) a w := by
  refine wpListIn_plain hgd fun K hK' => ?_
  obtain ⟨g, cap, w', hr, h2, h3, h4, h5⟩ := run_append_lies (P := P) w t o.type base e i z size bytes ht hi hz hsize hby hzs hsz v n xs hown ad m c news hl hnews h1 hm h63 hbytes hbase H hH
  unfold Oper.wpIn
  refine ⟨?_, ?_⟩
  · simp [Oper.about, ho, resolve, Target.leads, Sem.run_pure]
  · rw [Oper.semAt_plain F _ _ (by rw [ho]; intro c hc'; cases hc')]
    simp only [execOp, ho, resolve, invoke, builtin, Sem.run_bind, Sem.run_pure, Result.andThen_ok, List.map_toArray, List.map_cons, List.map_nil, hs, hx, hr]
    exact hK' _ _ (h g cap w' h2 h3 h4 h5)

/-- The list of paths, behind j rounds. -/
structure PJc (It : Nat → Prop) (W0 : World) (Pb : Nat) (L : List (List Int × Nd)) (j : Nat) (B : Nat → Prop) (W : World) (vp : Option Addr) (vl vc : Nat) (vs : List Value) : Prop where
  own : ∀ b, b < W0.heap.size → ¬ It b → B b
  keeps : Keeps (fun b => It b ∨ b = Pb) W0 W
  box : W.heap[Pb]? = some (.cells #[.slice vp vl vc] 31 (0, 0))
  row : W.ownsRow W0.heap.size 32 1 (.slice vp vl vc) j vs
  blk : ∀ g, (Value.slice vp vl vc).ownBlock = some g → B g
  rows : ∀ (i : Nat) (v : Value) (e : List Int × Nd), vs[i]? = some v → L[i]? = some e → Row W v e.1 ∧ (∀ g, v.ownBlock = some g → B g ∧ (Value.slice vp vl vc).ownBlock ≠ some g ∧ W0.heap.size ≤ g)
def PJ (It : Nat → Prop) (W0 : World) (Pb : Nat) (L : List (List Int × Nd)) (j : Nat) (B : Nat → Prop) (W : World) : Prop := ∃ vp vl vc vs, PJc It W0 Pb L j B W vp vl vc vs
variable {It : Nat → Prop} {W0 : World} {Pb : Nat} {L : List (List Int × Nd)}
theorem PJc.keep {j : Nat} {B : Nat → Prop} {W W' : World} {vp vl vc vs} (h : PJc It W0 Pb L j B W vp vl vc vs) (hP : Pb < W0.heap.size) (hPI : ¬ It Pb) (hk : Keeps (fun b => ¬ B b) W W') : PJc It W0 Pb L j B W' vp vl vc vs := by
  have hPB : B Pb := h.own _ hP hPI
  refine ⟨h.own, h.keeps.trans' hk (fun b hb hl => .inl (Classical.byContradiction fun hi => hb (h.own b hl hi))), (hk.block _ (heap_lt h.box) (fun hh => hh hPB)).trans h.box, ?_, h.blk, ?_⟩
  · refine ownsRow_same h.row fun b hb => ?_
    have hb : (Value.slice vp vl vc).ownBlock = some b := by simpa using hb
    exact hk.block b (h.row.lt b hb).2 (fun hh => hh (h.blk b hb))
  · intro i v e hv he
    obtain ⟨h1, h2⟩ := h.rows i v e hv he
    exact ⟨h1.keeps hk fun g hg => ⟨h1.lt hg, fun hh => hh (h2 g hg).1⟩, h2⟩
theorem PJ.stab (hP : Pb < W0.heap.size) (hPI : ¬ It Pb) (j : Nat) : Stab (PJ It W0 Pb L j) := by
  rintro B W W' ⟨vp, vl, vc, vs, h⟩ hk
  exact ⟨vp, vl, vc, vs, h.keep hP hPI hk⟩
theorem PJc.len {j : Nat} {B : Nat → Prop} {W : World} {vp vl vc vs} (h : PJc It W0 Pb L j B W vp vl vc vs) : vl = j := row_len h.row
/-- Where nothing of B's is written. -/
theorem PJc.next {j : Nat} {B : Nat → Prop} {W W' : World} {S : Nat → Prop} {vp vl vc vs} (h : PJc It W0 Pb L j B W vp vl vc vs) (hP : Pb < W0.heap.size) (hPI : ¬ It Pb) (hk : Keeps S W W') (hS : ∀ b, S b → ¬ B b) : PJc It W0 Pb L j B W' vp vl vc vs :=
  h.keep hP hPI (hk.mono fun b hb _ => hS b hb)
/-- The append. -/
theorem PJc.push {j l : Nat} {B Y : Nat → Prop} {W W1 W2 Wn Wa : World} {vp vl vc vs} {pv : Value} {e : List Int × Nd} {g cap : Nat} (h : PJc It W0 Pb L j B W vp vl vc vs) (hP : Pb < W0.heap.size) (hPI : ¬ It Pb) (hl : W0.heap.size ≤ l) (hWl : W0.heap.size ≤ W.heap.size)
    (hB : ∀ b, B b → b < W.heap.size ∧ b ≠ l) (hY : ∀ b, Y b → ¬ B b ∧ W0.heap.size ≤ b ∧ b ≠ l ∧ b < W.heap.size) (hk1 : Keeps (fun _ => False) W W1) (hk2 : Keeps (fun b => b = l) W1 W2) (hkn : Keeps (fun _ => False) W2 Wn)
    (he : L[j]? = some e) (hpv : Row W pv e.1) (hpY : ∀ b, pv.ownBlock = some b → Y b)
    (hga : Wn.grownBy Wa (Value.slice vp vl vc).ownBlock) (hra : Wa.ownsRow W0.heap.size 32 1 (.slice (some ⟨g, 0, none⟩) (j + 1) cap) (j + 1) (vs ++ [pv])) (hat : (Value.slice vp vl vc).ownBlock = some g ∨ g = Wn.heap.size) :
    ∃ B', (∀ b, B' b → (B b ∨ Y b ∨ W.heap.size ≤ b) ∧ b < (Wa.setCell ⟨Pb, 0, none⟩ (.slice (some ⟨g, 0, none⟩) (j + 1) cap)).heap.size) ∧ Keeps (fun b => B b ∨ Y b) W2 (Wa.setCell ⟨Pb, 0, none⟩ (.slice (some ⟨g, 0, none⟩) (j + 1) cap)) ∧
      PJ It W0 Pb L (j + 1) B' (Wa.setCell ⟨Pb, 0, none⟩ (.slice (some ⟨g, 0, none⟩) (j + 1) cap)) := by
  obtain ⟨E, hE⟩ : ∃ E, E = Wa.setCell ⟨Pb, 0, none⟩ (.slice (some ⟨g, 0, none⟩) (j + 1) cap) := ⟨_, rfl⟩
  have hsE : E.heap.size = Wa.heap.size := by rw [hE]; simp [World.setCell]
  have s1 := hk1.size
  have s2 := hk2.size
  have s3 := hkn.size
  have s4 := hga.size
  have hPB : B Pb := h.own _ hP hPI
  have hvl := h.len
  -- what the append changed
  have hka : Keeps (fun b => (Value.slice vp vl vc).ownBlock = some b) Wn Wa := ⟨hga.os, hga.tape, hga.output, hga.size, fun k hk hn => hga.block k hk (fun e => hn e.symm)⟩
  have hkE : Keeps (fun b => b = Pb) Wa E := by rw [hE]; exact (Keeps.refl (fun b => b = Pb) Wa).setCell (p := ⟨Pb, 0, none⟩) (fun _ => rfl) _
  have hk2E : Keeps (fun b => B b ∨ Y b) W2 E := ((hkn.mono (S' := fun b => B b ∨ Y b) fun _ h _ => h.elim).trans' hka (fun b hb _ => .inl (h.blk b hb))).trans' hkE (fun b hb _ => by subst hb; exact .inl hPB)
  -- from W to Wn
  have hWn : Keeps (fun b => b = l) W Wn := ((hk1.mono (S' := fun b => b = l) fun _ h _ => h.elim).trans' hk2 (fun b hb _ => hb)).trans' hkn (fun _ h => h.elim)
  have hn := h.next hP hPI hWn (fun b hb hbb => (hB b hbb).2 hb)
  have hgn : ∀ b, b < Wn.heap.size → g = b → (Value.slice vp vl vc).ownBlock = some b := fun b hb hgb => by
    rcases hat with h1 | h1
    · rw [h1, hgb]
    · omega
  have hPg : Pb ≠ g := by
    have := (hra.lt g rfl).1
    omega
  have hPW := heap_lt hn.box
  have hbn : Wa.heap[Pb]? = some (.cells #[.slice vp vl vc] 31 (0, 0)) := (hka.block _ hPW (fun e => by have := (hn.row.lt _ e).1; omega)).trans hn.box
  rw [← hE]
  refine ⟨fun b => (B b ∨ Y b ∨ W.heap.size ≤ b) ∧ b < E.heap.size, fun b hb => hb, hk2E, some ⟨g, 0, none⟩, j + 1, cap, vs ++ [pv], ?_⟩
  have hlt := (hra.lt g rfl).2
  refine ⟨fun b hb hi => ⟨.inl (h.own b hb hi), by omega⟩, ?_, ?_, ?_, ?_, ?_⟩
  · refine (hn.keeps.trans' hka (fun b hb hbl => ?_)).trans' hkE (fun b hb _ => .inr hb)
    have := (hn.row.lt b hb).1
    omega
  · rw [hE, heap_set hbn]; rfl
  · refine ownsRow_same hra fun b hb => ?_
    have hb : b = g := by simpa [Value.ownBlock] using hb
    subst hb
    exact hkE.block _ hlt (fun e => hPg e.symm)
  · intro b hb
    have hb : g = b := by simpa [Value.ownBlock] using hb
    subst hb
    refine ⟨?_, by omega⟩
    rcases hat with h1 | h1
    · exact .inl (h.blk g h1)
    · exact .inr (.inr (by omega))
  · intro i v e' hv he'
    have hvs : vs.length = j := by have := h.row.1; omega
    by_cases hi : i < j
    · rw [List.getElem?_append_left (by omega)] at hv
      obtain ⟨r1, r2⟩ := hn.rows i v e' hv he'
      refine ⟨?_, fun b hb => ?_⟩
      · refine (r1.keeps hka fun b hb => ⟨r1.lt hb, fun hh => (r2 b hb).2.1 hh⟩).keeps hkE fun b hb => ⟨Nat.lt_of_lt_of_le (r1.lt hb) hka.size, fun hh => by have := (r2 b hb).2.2; omega⟩
      · obtain ⟨q1, q2, q3⟩ := r2 b hb
        refine ⟨⟨.inl q1, ?_⟩, fun hh => ?_, q3⟩
        · have := (hB b q1).1; omega
        · have hgb : g = b := by simpa [Value.ownBlock] using hh
          exact q2 (hgn b (r1.lt hb) hgb)
    · by_cases hij : i = j
      · subst hij
        rw [List.getElem?_append_right (by omega), hvs, Nat.sub_self] at hv
        simp only [List.getElem?_cons_zero, Option.some.injEq] at hv
        subst hv
        rw [he] at he'
        simp only [Option.some.injEq] at he'
        subst he'
        have r0 := hpv.keeps hWn fun b hb => ⟨hpv.lt hb, fun hh => (hY b (hpY b hb)).2.2.1 hh⟩
        refine ⟨?_, fun b hb => ?_⟩
        · refine (r0.keeps hka fun b hb => ⟨r0.lt hb, fun hh => (hY b (hpY b hb)).1 (h.blk b hh)⟩).keeps hkE fun b hb => ⟨Nat.lt_of_lt_of_le (r0.lt hb) hka.size, fun hh => by have := (hY b (hpY b hb)).2.1; omega⟩
        · obtain ⟨q1, q2, q3, q4⟩ := hY b (hpY b hb)
          refine ⟨⟨.inr (.inl (hpY b hb)), ?_⟩, fun hh => ?_, q2⟩
          · omega
          · have hgb : g = b := by simpa [Value.ownBlock] using hh
            exact q1 (h.blk b (hgn b (r0.lt hb) hgb))
      · rw [List.getElem?_eq_none (by simp; omega)] at hv
        simp at hv
theorem TreeRes.out2 {w w' : World} {x : Nd} {i : Int} {e : Ending} (h : TreeRes w (x, i) e w') :
    ∃ cp cl cc A, e = .returned (.tuple #[tv x.k x.n x.t cp cl cc, .int .i64 i]) ∧ Tv w' A x.k x.t x.c cp cl cc ∧ (∀ b, A b → w.heap.size ≤ b ∧ b < w'.heap.size) ∧ Keeps (fun _ => False) w w' := by
  obtain ⟨cp, cl, cc, bs, he, ho, hn, hs, hk⟩ := h
  exact ⟨cp, cl, cc, _, he, ho.tv hs, fun b hb => ⟨hn.lo b hb, hn.hi b hb⟩, hk⟩
/-- What a statement such as 'z, f := At(..)' leaves: a tree in a box, a number. -/
def TreeBox (W : World) (y : Nd) (n : Int) (s1 s2 : Value) (wx : World) : Prop :=
  ∃ zb cp cl cc A, s1 = .pointer (some ⟨zb, 0, none⟩) ∧ s2 = .int .i64 n ∧ W.heap.size ≤ zb ∧ wx.heap[zb]? = some (.cells (four y.k y.n y.t cp cl cc) T (0, 0)) ∧ Tv wx A y.k y.t y.c cp cl cc ∧ Keeps (fun _ => False) W wx
abbrev Z0 : Obj := .cells (four e0 0 e0 none 0 0) T
theorem z0_cells {W W1 : World} (hk : Keeps (fun _ => False) (W.alloc Z0).drew W1) : W1.heap[W.heap.size]? = some (.cells (four e0 0 e0 none 0 0) T (0, 0)) := hk.heap (heap_alloc_new W _)
theorem TreeBox.early {W W1 : World} {y : Nd} {n : Int} {cp : Option Addr} {cl cc : Nat} {A : Nat → Prop} (hk : Keeps (fun _ => False) (W.alloc Z0).drew W1) (ht : Tv W1 A y.k y.t y.c cp cl cc) (hA : ∀ b, A b → (W.alloc Z0).drew.heap.size ≤ b ∧ b < W1.heap.size) :
    TreeBox W y n (.pointer (some ⟨W.heap.size, 0, none⟩)) (.int .i64 n) ((((W1.setCell ⟨W.heap.size, 0, none⟩ (.string y.k)).setCell ⟨W.heap.size, 1, none⟩ (.int .i64 y.n)).setCell ⟨W.heap.size, 2, none⟩ (.string y.t)).setCell ⟨W.heap.size, 3, none⟩ (.slice cp cl cc)) := by
  have h4 := Keeps.four W1 W.heap.size (.string y.k) (.int .i64 y.n) (.string y.t) (.slice cp cl cc)
  have hs : (W.alloc Z0).drew.heap.size = W.heap.size + 1 := by simp
  refine ⟨W.heap.size, cp, cl, cc, A, rfl, rfl, Nat.le_refl _, ?_, ht.keeps h4 (fun b hb e => by have := (hA b hb).1; omega), ((((Keeps.refl _ W).alloc Z0).drew).trans hk).trans' h4 (fun b hb hl => by omega)⟩
  rw [heap_set (heap_set (heap_set (heap_set (z0_cells hk) _ _) _ _) _ _) _ _]
  rfl
theorem TreeBox.late {W W1 : World} {y : Nd} {n : Int} {cp : Option Addr} {cl cc : Nat} {A : Nat → Prop} (hk : Keeps (fun _ => False) W W1) (ht : Tv W1 A y.k y.t y.c cp cl cc) :
    TreeBox W y n (.pointer (some ⟨W1.heap.size, 0, none⟩)) (.int .i64 n) (W1.alloc (.cells (four y.k y.n y.t cp cl cc) T)) := by
  have h1 : Keeps (fun _ => False) W1 (W1.alloc (.cells (four y.k y.n y.t cp cl cc) T)) := (Keeps.refl _ W1).alloc _
  exact ⟨W1.heap.size, cp, cl, cc, A, rfl, rfl, hk.size, heap_alloc_new _ _, ht.next h1, hk.trans h1⟩
end Go.Proofs.Ytnphhibfiklfjaa
