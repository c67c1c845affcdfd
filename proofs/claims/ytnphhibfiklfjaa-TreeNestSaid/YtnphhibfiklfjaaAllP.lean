/-
  Lists of steps (a path, a tree) in memory; a path's copy by append.
-/
import Derived.Test.YtnphhibfiklfjaaROwn
import Derived.Test.YtnphhibfiklfjaaEachP
import Derived.Test.YtnphhibfiklfjaaPut
set_option linter.unusedVariables false
set_option linter.unusedSimpArgs false
namespace Go.Proofs.Ytnphhibfiklfjaa
open Go.RowKit

theorem Row.ints {w : World} {v : Value} {xs : List Int} (h : Row w v xs) (hx : xs.length ≤ 9223372036854775807) : ∃ p c, v = .slice p xs.length c ∧ Ints w (fun b => v.ownBlock = some b) xs p xs.length := by
  rcases h.form with ⟨rfl, rfl⟩ | ⟨g, cap, cur, rfl, hpos, hh, h1, h2, h3, h4⟩
  · exact ⟨none, 0, rfl, rfl, by simp, fun h => by simp at h⟩
  · refine ⟨_, _, rfl, rfl, hx, fun _ => ⟨g, 0, rfl, rfl, heap_lt hh, fun i hi => ?_⟩⟩
    have := h.cellsOf i (vint (xs.getD i 0)) (by simp [List.getD_eq_getElem?_getD, List.getElem?_eq_getElem hi])
    rw [add0] at this
    rw [show (0 : Nat) + i = i by omega]
    exact this

/-! ### 'append([]int(nil), p...)' -/
theorem run_clone {P : Program} (w : World) (t ty : TypeId) (i : TypeInfo) (z : Value) (ht : P.underlying t = some (.slice 3)) (hi : P.info? 3 = some i) (hz : i.zero = some z) (hs1 : i.size = 1) (hb8 : i.bytes = 8) (hzs : z.cells.size = 1)
    {A : Nat → Prop} {xs : List Int} {pp : Option Addr} {pl : Nat} (pc : Nat) (h : Ints w A xs pp pl) (hl : pl ≤ 17592186044416) :
    ∃ v' w', (Builtin.append_ #[t, t] ty #[.slice none 0 0, .slice pp pl pc]).run P w = .ok v' w' ∧ Row w' v' xs ∧ Keeps (fun _ => False) w w' ∧ (∀ g, v'.ownBlock = some g → w.heap.size ≤ g) := by
  have hlen := h.len
  by_cases h0 : pl = 0
  · subst h0
    have hxs : xs = [] := List.eq_nil_of_length_eq_zero hlen
    subst hxs
    rcases pp with _ | ad
    · refine ⟨.slice none 0 0, w, ?_, ⟨World.ownsRow_nil _ _ _ _, fun _ => rfl⟩, Keeps.refl _ _, fun g hg => by simp [Value.ownBlock] at hg⟩
      simp [Builtin.append_, run_underlying ht, sizeOf, typeInfo, hi, Builtin.lenOf, Builtin.firstCells]
    · obtain ⟨v', w', hr, h2, h3, h4, _⟩ := run_append_own_at (P := P) w w.heap.size t ty 3 i z 1 8 ht hi hz hs1 hb8 hzs (by omega) (.slice none 0 0) 0 [] (World.ownsRow_nil _ _ _ _) ad 0 pc [] (by simp) (by simp) (by simp) (by simp [maxLen]) (by omega) (Nat.le_refl _)
      have hv : v' = .slice none 0 0 := h4.2 ⟨rfl, rfl⟩
      subst hv
      exact ⟨_, w', hr, ⟨World.ownsRow_nil _ _ _ _, fun _ => rfl⟩, (Keeps.refl _ w).grown h3 (fun k hk => by simp [Value.ownBlock] at hk), fun g hg => by simp [Value.ownBlock] at hg⟩
  · obtain ⟨b, o, rfl, _, _, hc⟩ := h.cells (by omega)
    have hnews : ∀ j u, (xs.map vint)[j]? = some u → w.cell? ((⟨b, o, none⟩ : Addr).add j) = some u := by
      intro j u hu
      have hj : j < xs.length := by
        rcases Nat.lt_or_ge j xs.length with hh | hh
        · exact hh
        · rw [List.getElem?_eq_none (by simpa using hh)] at hu; simp at hu
      rw [WideShapes.add_plain]
      have := hc j (by omega)
      rw [this]
      simpa [List.getD_eq_getElem?_getD, List.getElem?_eq_getElem hj] using hu
    obtain ⟨v', w', hr, h2, h3, h4, _⟩ := run_append_own_at (P := P) w w.heap.size t ty 3 i z 1 8 ht hi hz hs1 hb8 hzs (by omega) (.slice none 0 0) 0 [] (World.ownsRow_nil _ _ _ _) ⟨b, o, none⟩ pl pc (xs.map vint) (by simp [hlen]) hnews (by simp [Value.oneCell']) (by unfold maxLen; omega) (by omega) (Nat.le_refl _)
    simp only [Nat.zero_add, List.nil_append] at h2
    refine ⟨v', w', hr, ⟨?_, fun hn => by rw [hn] at hlen; simp at hlen; omega⟩, (Keeps.refl _ w).grown h3 (fun k hk => by simp [Value.ownBlock] at hk), fun g hg => (h2.lt g hg).1⟩
    rw [hlen]
    exact ⟨h2.1, h2.2.imp id (fun ⟨g, cap, cur, a, b, c⟩ => ⟨g, cap, cur, a, Nat.zero_le _, c⟩)⟩
theorem wp_clone {P : Program} {o : Oper} {a : Act} {w : World} {K : Act → World → Prop} {Q : Exit → Act → World → Prop} (s x : Operand) (t : TypeId)
    (ho : o.op = .call { callee := .builtin .append, args := #[s, x], argTypes := #[t, t] }) (i : TypeInfo) (z : Value) (ht : P.underlying t = some (.slice 3)) (hi : P.info? 3 = some i) (hz : i.zero = some z) (hs1 : i.size = 1) (hb8 : i.bytes = 8) (hzs : z.cells.size = 1)
    (hs : a.eval s = .slice none 0 0) {A : Nat → Prop} {xs : List Int} {pp : Option Addr} {pl : Nat} (pc : Nat) (hx : a.eval x = .slice pp pl pc) (hr : Ints w A xs pp pl) (hl : pl ≤ 17592186044416)
    (h : ∀ v' w', Row w' v' xs → Keeps (fun _ => False) w w' → (∀ g, v'.ownBlock = some g → w.heap.size ≤ g) → K (a.put o.dst v') w') : o.wp P a w K Q := by
  obtain ⟨v', w', hrun, h1, h2, h3⟩ := run_clone (P := P) w t o.type i z ht hi hz hs1 hb8 hzs pc hr hl
  unfold Oper.wp execOp
  simp only [ho, resolve, invoke, builtin, Sem.run_bind, Sem.run_pure, Result.andThen_ok, List.map_toArray, List.map_cons, List.map_nil, hs, hx, hrun]
  exact h v' w' h1 h2 h3
theorem wpList_clone {P : Program} {ops : Array Oper} {rest : List Oper} {o : Oper} {a : Act} {w : World} {Q : Exit → Act → World → Prop} (hgd : o.guard = none) (s x : Operand) (t : TypeId)
    (ho : o.op = .call { callee := .builtin .append, args := #[s, x], argTypes := #[t, t] }) (i : TypeInfo) (z : Value) (ht : P.underlying t = some (.slice 3)) (hi : P.info? 3 = some i) (hz : i.zero = some z) (hs1 : i.size = 1) (hb8 : i.bytes = 8) (hzs : z.cells.size = 1)
    (hs : a.eval s = .slice none 0 0) {A : Nat → Prop} {xs : List Int} {pp : Option Addr} {pl : Nat} (pc : Nat) (hx : a.eval x = .slice pp pl pc) (hr : Ints w A xs pp pl) (hl : pl ≤ 17592186044416)
    (h : ∀ v' w', Row w' v' xs → Keeps (fun _ => False) w w' → (∀ g, v'.ownBlock = some g → w.heap.size ≤ g) → wpList P ops Q rest (a.put o.dst v') w') : wpList P ops Q (o :: rest) a w :=
  wpList_plain hgd fun _ hK => wp_clone s x t ho i z ht hi hz hs1 hb8 hzs hs pc hx hr hl fun v' w' h1 h2 h3 => hK _ _ (h v' w' h1 h2 h3)
theorem step_clone {P : Program} {ops : Array Oper} {o : Oper} {a : Act} {w : World} {K : Act → World → Prop} {Q : Exit → Act → World → Prop} {E : Prop} (hgd : o.guard = none) (s x : Operand) (t : TypeId)
    (ho : o.op = .call { callee := .builtin .append, args := #[s, x], argTypes := #[t, t] }) (i : TypeInfo) (z : Value) (ht : P.underlying t = some (.slice 3)) (hi : P.info? 3 = some i) (hz : i.zero = some z) (hs1 : i.size = 1) (hb8 : i.bytes = 8) (hzs : z.cells.size = 1)
    (hs : a.eval s = .slice none 0 0) {A : Nat → Prop} {xs : List Int} {pp : Option Addr} {pl : Nat} (pc : Nat) (hx : a.eval x = .slice pp pl pc) (hr : Ints w A xs pp pl) (hl : pl ≤ 17592186044416)
    (h : ∀ v' w', Row w' v' xs → Keeps (fun _ => False) w w' → (∀ g, v'.ownBlock = some g → w.heap.size ≤ g) → K (a.put o.dst v') w') :
    if Region.wanted o (yielded ops a.tmps) = true then Oper.wp P o a w K Q else E := by
  have hw : Region.wanted o (yielded ops a.tmps) = true := by simp [Region.wanted, hgd]
  rw [if_pos hw]
  exact wp_clone s x t ho i z ht hi hz hs1 hb8 hzs hs pc hx hr hl h

/-! ### Lists of steps -/
abbrev TS : TypeId := 46
def StepsRep (w : World) : List (List Int × Nd) → List Value → List Nat → Prop
  | [], xs, bs => xs = [] ∧ bs = []
  | (p, x) :: L, xs, bs => ∃ pv cp cl cc bs1 xs' bs2, xs = pv :: .string x.k :: .int .i64 x.n :: .string x.t :: .slice cp cl cc :: xs' ∧ bs = pv.ownBlock.toList ++ bs1 ++ bs2 ∧ szok x.k x.t ∧ Row w pv p ∧ Own w x.c cp cl cc bs1 ∧ StepsRep w L xs' bs2
theorem Row.shape {w : World} {v : Value} {xs : List Int} (h : Row w v xs) : ∀ b, v.ownBlock = some b → ∃ cur, w.heap[b]? = some (.cells cur 3 (0, 0)) := fun b hb => by
  rcases h.form with ⟨rfl, _⟩ | ⟨g, cap, cur, rfl, _, hh, _⟩
  · simp [Value.ownBlock] at hb
  · have : g = b := by simpa [Value.ownBlock] using hb
    subst this
    exact ⟨cur, hh⟩
theorem StepsRep.shape {w : World} : ∀ {L : List (List Int × Nd)} {xs : List Value} {bs : List Nat}, StepsRep w L xs bs → ∀ b ∈ bs, ∃ cur t, w.heap[b]? = some (.cells cur t (0, 0)) ∧ t ≠ TS
  | [], _, _, ⟨_, rfl⟩, b, hb => by simp at hb
  | (p, x) :: L, _, _, ⟨pv, cp, cl, cc, bs1, xs', bs2, _, rfl, _, hr, ho, hrest⟩, b, hb => by
    rcases List.mem_append.1 hb with hb | hb
    · rcases List.mem_append.1 hb with hb | hb
      · obtain ⟨cur, h⟩ := hr.shape b (by simpa using hb)
        exact ⟨cur, _, h, by decide⟩
      · obtain ⟨cur, h⟩ := ho.shape b hb
        exact ⟨cur, _, h, by decide⟩
    · exact StepsRep.shape hrest b hb
theorem StepsRep.same {w w1 : World} : ∀ {L : List (List Int × Nd)} {xs : List Value} {bs : List Nat}, StepsRep w L xs bs → (∀ b ∈ bs, w1.heap[b]? = w.heap[b]?) → StepsRep w1 L xs bs
  | [], _, _, h, _ => h
  | (p, x) :: L, _, _, ⟨pv, cp, cl, cc, bs1, xs', bs2, hx, hb, hs, hr, ho, hrest⟩, h => by
    subst hb
    exact ⟨pv, cp, cl, cc, bs1, xs', bs2, hx, rfl, hs, ⟨ownsRow_same hr.own (fun b hb => h b (by simp at hb ⊢; exact .inl hb)), hr.nil⟩, ho.same (fun b hb => h b (by simp [hb])), StepsRep.same hrest (fun b hb => h b (by simp [hb]))⟩
theorem StepsRep.snoc {w : World} {p : List Int} {x : Nd} {pv : Value} {cp : Option Addr} {cl cc : Nat} {bs1 : List Nat} (hs : szok x.k x.t) (hr : Row w pv p) (ho : Own w x.c cp cl cc bs1) : ∀ {L : List (List Int × Nd)} {xs : List Value} {bs : List Nat}, StepsRep w L xs bs →
    StepsRep w (L ++ [(p, x)]) (xs ++ [pv, .string x.k, .int .i64 x.n, .string x.t, .slice cp cl cc]) (bs ++ (pv.ownBlock.toList ++ bs1))
  | [], _, _, ⟨rfl, rfl⟩ => ⟨pv, cp, cl, cc, bs1, [], [], rfl, by simp, hs, hr, ho, rfl, rfl⟩
  | (p', x') :: L, _, _, ⟨pv', cp', cl', cc', bs1', xs', bs2', rfl, rfl, hs', hr', ho', hrest⟩ => ⟨pv', cp', cl', cc', bs1', _, _, rfl, by simp [List.append_assoc], hs', hr', ho', StepsRep.snoc hs hr ho hrest⟩
/-- The i-th step. -/
theorem StepsRep.at_ {w : World} : ∀ {L : List (List Int × Nd)} {xs : List Value} {bs : List Nat} {i : Nat} {p : List Int} {x : Nd}, StepsRep w L xs bs → L[i]? = some (p, x) →
    ∃ pv cp cl cc bs1, xs[i * 5]? = some pv ∧ xs[i * 5 + 1]? = some (.string x.k) ∧ xs[i * 5 + 2]? = some (.int .i64 x.n) ∧ xs[i * 5 + 3]? = some (.string x.t) ∧ xs[i * 5 + 4]? = some (.slice cp cl cc) ∧ szok x.k x.t ∧ Row w pv p ∧ Own w x.c cp cl cc bs1 ∧ (∀ b, pv.ownBlock = some b ∨ b ∈ bs1 → b ∈ bs)
  | [], _, _, i, _, _, _, h => by simp at h
  | (p', x') :: L, _, _, 0, p, x, ⟨pv, cp, cl, cc, bs1, xs', bs2, rfl, rfl, hs, hr, ho, hrest⟩, h => by
    simp only [List.getElem?_cons_zero, Option.some.injEq, Prod.mk.injEq] at h
    obtain ⟨rfl, rfl⟩ := h
    exact ⟨pv, cp, cl, cc, bs1, rfl, rfl, rfl, rfl, rfl, hs, hr, ho, fun b hb => by simp; exact hb.elim (fun h => .inl h) (fun h => .inr (.inl h))⟩
  | (p', x') :: L, _, _, i + 1, p, x, ⟨pv, cp, cl, cc, bs1, xs', bs2, rfl, rfl, hs, hr, ho, hrest⟩, h => by
    simp only [List.getElem?_cons_succ] at h
    obtain ⟨pv2, cp2, cl2, cc2, bs12, g0, g1, g2, g3, g4, h5, h6, h7, h8⟩ := StepsRep.at_ hrest h
    have e : ∀ k, (i + 1) * 5 + k = i * 5 + k + 5 := fun k => by omega
    refine ⟨pv2, cp2, cl2, cc2, bs12, ?_, ?_, ?_, ?_, ?_, h5, h6, h7, fun b hb => by simp [h8 b hb]⟩
    · rw [show (i + 1) * 5 = i * 5 + 5 by omega]; simpa using g0
    · rw [e]; simpa using g1
    · rw [e]; simpa using g2
    · rw [e]; simpa using g3
    · rw [e]; simpa using g4

structure StepsI (D : Nat) (W : World) (L : List (List Int × Nd)) (lp : Option Addr) (ll lc : Nat) (xs : List Value) (bs : List Nat) : Prop where
  row : W.ownsRow D TS 5 (.slice lp ll lc) L.length xs
  rep : StepsRep W L xs bs
  lo : ∀ b ∈ bs, D ≤ b
theorem StepsI.start (D : Nat) (W : World) : StepsI D W [] none 0 0 [] [] := ⟨World.ownsRow_nil _ _ _ _, ⟨rfl, rfl⟩, by simp⟩
theorem StepsI.lt {D : Nat} {W : World} {L lp ll lc xs bs} (h : StepsI D W L lp ll lc xs bs) : ∀ b ∈ bs, b < W.heap.size := fun b hb => by
  obtain ⟨cur, t, hh, _⟩ := h.rep.shape b hb
  exact heap_lt hh
/-- The list's own block. -/
theorem StepsI.blk {D : Nat} {W : World} {L lp ll lc xs bs} (h : StepsI D W L lp ll lc xs bs) {g : Nat} (hg : (Value.slice lp ll lc).ownBlock = some g) : D ≤ g ∧ ∃ cur, W.heap[g]? = some (.cells cur TS (0, 0)) := by
  rcases h.row.2 with ⟨h1, _⟩ | ⟨g', cap, cur, h1, h2, h3, _⟩
  · rw [h1] at hg; simp [Value.ownBlock] at hg
  · rw [h1] at hg
    have : g' = g := by simpa [Value.ownBlock] using hg
    subst this
    exact ⟨h2, cur, h3⟩
theorem StepsI.ne {D : Nat} {W : World} {L lp ll lc xs bs} (h : StepsI D W L lp ll lc xs bs) {b : Nat} (hb : b ∈ bs) : (Value.slice lp ll lc).ownBlock ≠ some b := fun e => by
  obtain ⟨_, cur, h1⟩ := h.blk e
  obtain ⟨cur', t, h2, h3⟩ := h.rep.shape b hb
  rw [h1] at h2
  simp only [Option.some.injEq, Obj.cells.injEq] at h2
  exact h3 h2.2.1.symm
theorem StepsI.keeps {D : Nat} {W W1 : World} {S : Nat → Prop} {L lp ll lc xs bs} (h : StepsI D W L lp ll lc xs bs) (hk : Keeps S W W1) (hS : ∀ b, S b → b < D ∨ W.heap.size ≤ b) : StepsI D W1 L lp ll lc xs bs :=
  ⟨ownsRow_same h.row (fun b hb => by
    have hb' : (Value.slice lp ll lc).ownBlock = some b := by simpa using hb
    obtain ⟨h1, cur, h2⟩ := h.blk hb'
    have h3 := heap_lt h2
    exact hk.block b h3 (fun hs => by have := hS b hs; omega)),
   h.rep.same (fun b hb => hk.block b (h.lt b hb) (fun hs => by have := hS b hs; have := h.lo b hb; have := h.lt b hb; omega)), h.lo⟩
/-- One step more. -/
theorem StepsI.push {D : Nat} {wr Wq w3 : World} {L : List (List Int × Nd)} {lp : Option Addr} {ll lc : Nat} {xs : List Value} {bs : List Nat} (hI : StepsI D wr L lp ll lc xs bs) (hk : Keeps (fun _ => False) wr Wq)
    {p : List Int} {x : Nd} {pv : Value} {cp : Option Addr} {cl cc : Nat} {bs1 : List Nat} (hs : szok x.k x.t) (hr : Row Wq pv p) (ho : Own Wq x.c cp cl cc bs1) (hlo : ∀ b, pv.ownBlock = some b ∨ b ∈ bs1 → D ≤ b) {gg cap : Nat}
    (hrow : w3.ownsRow D TS 5 (.slice (some ⟨gg, 0, none⟩) (L.length + 1) cap) (L.length + 1) (xs ++ [pv, .string x.k, .int .i64 x.n, .string x.t, .slice cp cl cc]))
    (hg : Wq.grownBy w3 (Value.slice lp ll lc).ownBlock) :
    StepsI D w3 (L ++ [(p, x)]) (some ⟨gg, 0, none⟩) (L.length + 1) cap (xs ++ [pv, .string x.k, .int .i64 x.n, .string x.t, .slice cp cl cc]) (bs ++ (pv.ownBlock.toList ++ bs1)) := by
  have hq := hI.keeps hk (fun _ h => h.elim)
  have hrep := hq.rep.snoc hs hr ho
  have hne : ∀ b ∈ bs ++ (pv.ownBlock.toList ++ bs1), b < Wq.heap.size ∧ (Value.slice lp ll lc).ownBlock ≠ some b := fun b hb => by
    obtain ⟨cur, t, h1, h2⟩ := hrep.shape b hb
    refine ⟨heap_lt h1, fun e => ?_⟩
    obtain ⟨_, cur', h3⟩ := hq.blk e
    rw [h1] at h3
    simp only [Option.some.injEq, Obj.cells.injEq] at h3
    exact h2 h3.2.1
  refine ⟨by rw [List.length_append]; exact hrow, hrep.same (fun b hb => hg.block b (hne b hb).1 (fun e => (hne b hb).2 e.symm)), fun b hb => ?_⟩
  rcases List.mem_append.1 hb with h | h
  · exact hI.lo b h
  · exact hlo b (by simpa using h)
end Go.Proofs.Ytnphhibfiklfjaa
