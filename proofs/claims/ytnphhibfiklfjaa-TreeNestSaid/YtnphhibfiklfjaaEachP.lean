/-
  Each, laid ahead: the nodes in their order; a path copied; a path made longer by one.
-/
import Derived.Test.YtnphhibfiklfjaaCopy
import Derived.Test.YtnphhibfiklfjaaWlk2
import Derived.Test.YtnphhibfiklfjaaRange
set_option linter.unusedVariables false
set_option linter.unusedSimpArgs false
namespace Go.Proofs.Ytnphhibfiklfjaa
open Go.RowKit

abbrev vint (x : Int) : Value := .int .i64 x
/-- The nodes of a forest, each ahead of its kids, each with its path; the first lies at p ++ [i]. -/
def preK (p : List Int) : Nat → Fo → List (List Int × Nd)
  | _, .nil => []
  | i, .cons k n t c r => (p ++ [(i : Int)], ⟨k, n, t, c⟩) :: preK (p ++ [(i : Int)]) 0 c ++ preK p (i + 1) r
def pre (p : List Int) (x : Nd) : List (List Int × Nd) := (p, x) :: preK p 0 x.c
theorem preK_cons (p : List Int) (i : Nat) (k n t c r) : preK p i (.cons k n t c r) = pre (p ++ [(i : Int)]) ⟨k, n, t, c⟩ ++ preK p (i + 1) r := by simp [preK, pre]
theorem preK_len (f : Fo) : ∀ (p : List Int) (i : Nat), (preK p i f).length = f.nodes := by
  induction f with
  | nil => intro p i; rfl
  | cons k n t c r ihc ihr => intro p i; simp [preK, Fo.nodes, ihc, ihr]
theorem pre_len (p : List Int) (x : Nd) : (pre p x).length = x.c.nodes + 1 := by simp [pre, preK_len]

theorem Try.intInfo : (Try.prog.info? 3).map (fun i => (i.zero, i.size, i.bytes)) = some (some (.int .i64 0), 1, 8) := by kernel_rfl
/-- A list of numbers in a row of its own; nil just where there is none. -/
structure Row (w : World) (v : Value) (xs : List Int) : Prop where
  own : w.ownsRow 0 3 1 v xs.length (xs.map vint)
  nil : xs = [] → v = .slice none 0 0
theorem Row.keeps {w w1 : World} {S : Nat → Prop} {v : Value} {xs : List Int} (h : Row w v xs) (hk : Keeps S w w1) (hb : ∀ g, v.ownBlock = some g → g < w.heap.size ∧ ¬ S g) : Row w1 v xs :=
  ⟨ownsRow_same h.own (fun b hm => by
    have : v.ownBlock = some b := by simpa using hm
    exact hk.block b (hb b this).1 (hb b this).2), h.nil⟩
theorem Row.lt {w : World} {v : Value} {xs : List Int} (h : Row w v xs) {g : Nat} (hg : v.ownBlock = some g) : g < w.heap.size := (h.own.lt g hg).2
theorem Row.form {w : World} {v : Value} {xs : List Int} (h : Row w v xs) : (v = .slice none 0 0 ∧ xs = []) ∨ ∃ g cap cur, v = .slice (some ⟨g, 0, none⟩) xs.length cap ∧ 0 < xs.length ∧ w.heap[g]? = some (.cells cur 3 (0, 0)) ∧ xs.length ≤ cap ∧ cap ≤ maxLen ∧ cur.size = cap ∧ cur.toList.take xs.length = xs.map vint := by
  rcases h.own.2 with ⟨h1, h2⟩ | ⟨g, cap, cur, h1, _, h2, h3, h4, h5, h6⟩
  · exact .inl ⟨h1, List.eq_nil_of_length_eq_zero h2⟩
  · right
    refine ⟨g, cap, cur, h1, ?_, h2, h3, h4, by simpa using h5, by simpa using h6⟩
    rcases Nat.eq_zero_or_pos xs.length with h0 | h0
    · have := h.nil (List.eq_nil_of_length_eq_zero h0)
      rw [h1] at this
      simp at this
    · exact h0
theorem Row.cellsOf {w : World} {xs : List Int} {g n cap : Nat} (h : Row w (.slice (some ⟨g, 0, none⟩) n cap) xs) : ∀ j u, (xs.map vint)[j]? = some u → w.cell? ((⟨g, 0, none⟩ : Addr).add j) = some u := h.own.cells rfl

theorem Row.shorter {w : World} {xs : List Int} {j : Int} {g cap : Nat} (h : Row w (.slice (some ⟨g, 0, none⟩) (xs.length + 1) cap) (xs ++ [j])) (hx : 0 < xs.length) : Row w (.slice (some ⟨g, 0, none⟩) xs.length cap) xs := by
  rcases h.form with ⟨h1, _⟩ | ⟨g', cap', cur, h1, _, h2, h3, h4, h5, h6⟩
  · simp at h1
  · simp only [List.length_append, List.length_cons, List.length_nil, Value.slice.injEq, Option.some.injEq, Addr.mk.injEq, and_true] at h1
    obtain ⟨rfl, _, rfl⟩ := h1
    simp only [List.length_append, List.length_cons, List.length_nil] at h3 h6
    refine ⟨⟨by simp, .inr ⟨g, cap, cur, rfl, Nat.zero_le _, h2, by omega, h4, by omega, ?_⟩⟩, fun hn => by rw [hn] at hx; simp at hx⟩
    have := congrArg (List.take xs.length) h6
    rw [List.take_take] at this
    rw [Nat.mul_one]
    simpa [Nat.min_eq_left (Nat.le_succ _)] using this
/-- What slices.Clone leaves. -/
def CloneR (xs : List Int) (w : World) (e : Ending) (w' : World) : Prop :=
  ∃ v, e = .returned v ∧ Row w' v xs ∧ (∀ g, v.ownBlock = some g → w.heap.size ≤ g) ∧ Keeps (fun _ => False) w w'

set_option maxRecDepth 100000 in
set_option maxHeartbeats 800000 in
theorem clone_any (xs : List Int) (hx : xs.length ≤ 100000) (v : Value) (w : World) (hr : Row w v xs) :
    Calls Try.prog 40 #[v] w (CloneR xs w) := by
  obtain ⟨i0, hi0, hz0, hz1, hz2⟩ := info_parts Try.intInfo
  rcases hr.form with ⟨rfl, rfl⟩ | ⟨g, cap, cur, rfl, hpos, hh, h1, h2, h3, h4⟩
  · have he : ∀ w : World, (binOp .eql 32 (.slice none 0 0) (.slice none 0 0)).run Try.prog w = .ok (.bool true) w := fun _ => by kernel_rfl
    go_enter Try.func40, Try.ntmps40
    go_wp2_with fail
    go_ret
    exact ⟨_, rfl, ⟨World.ownsRow_nil _ _ _ _, fun _ => rfl⟩, fun g hg => by simp [Value.ownBlock] at hg, Keeps.refl _ _⟩
  · have he : ∀ w : World, (binOp .eql 32 (.slice (some ⟨g, 0, none⟩) xs.length cap) (.slice none 0 0)).run Try.prog w = .ok (.bool false) w := fun _ => rfl
    have hcells := hr.cellsOf
    go_enter Try.func40, Try.ntmps40
    go_wp2_with (at_builtin; refine wpList_append_lies _ rfl _ _ 32 rfl w.heap.size 3 i0 _ 1 8 Try.underlying32 hi0 hz0 hz1 hz2 rfl (by omega) (.slice (some ⟨w.heap.size, 0, none⟩) 0 0) 0 [] rfl ?own ⟨g, 0, none⟩ xs.length cap (xs.map vint) rfl (by simp) ?news ?one hpos (by simp only [maxLen]; omega) (by omega) ?base _ rfl ?_)
    case own => exact ⟨rfl, .inr ⟨w.heap.size, 0, #[], rfl, Nat.le_refl _, heap_alloc_new w _, by omega, by simp [maxLen], rfl, rfl⟩⟩
    case news => 
      intro j u hu
      have := hcells j u hu
      rw [add0] at this ⊢
      exact (((Keeps.refl (fun _ => False) w).alloc _).cell (p := ⟨g, j, none⟩) (heap_lt hh) (fun h => h)).trans this
    case one => simp [Value.oneCell']
    case base => simp
    intro g1 cap1 w1 hown hgrow hat hlt
    go_wp2_with fail
    go_ret
    refine ⟨_, rfl, ⟨⟨by simp, hown.2.imp id (fun ⟨g, cap, cur, a, b, c⟩ => ⟨g, cap, cur, a, Nat.zero_le _, c⟩)⟩, fun hn => by rw [hn] at hpos; simp at hpos⟩, fun x hx => ?_, ?_⟩
    · exact (hown.lt x hx).1
    · exact ((Keeps.refl _ w).alloc _).trans' (Keeps.grown (S := fun b => b = w.heap.size) (Keeps.refl _ _) hgrow (fun k hk _ => by simp [Value.ownBlock] at hk; exact hk.symm)) (fun b hb hl => by omega)
/-- A path made longer by one: in its own row where there is room, else in a new one. -/
theorem step_longer {P : Program} {ops : Array Oper} {o : Oper} {a : Act} {w : World} {K : Act → World → Prop} {Q : Exit → Act → World → Prop} {E : Prop} (hgd : o.guard = none) (s x : Operand) (t : TypeId)
    (ho : o.op = .call { callee := .builtin .append, args := #[s, x], argTypes := #[t, t] }) (i : TypeInfo) (z : Value) (ht : P.underlying t = some (.slice 3)) (hi : P.info? 3 = some i) (hz : i.zero = some z) (hs1 : i.size = 1) (hb8 : i.bytes = 8) (hzs : z.cells.size = 1)
    (v : Value) (xs : List Int) (hl : xs.length ≤ 100000) (hs : a.eval s = v) (hr : Row w v xs) (j : Int) (B : Nat) (hx : a.eval x = .slice (some ⟨B, 0, none⟩) 1 1) (hB : w.heap[B]? = some (.cells #[vint j] 3 (0, 0)))
    (h : ∀ g cap w', Row w' (.slice (some ⟨g, 0, none⟩) (xs.length + 1) cap) (xs ++ [j]) → g < w'.heap.size → ((v = .slice (some ⟨g, 0, none⟩) xs.length cap ∧ Keeps (fun b => b = g) w w') ∨ (w.heap.size ≤ g ∧ Keeps (fun _ => False) w w')) →
      K (a.put o.dst (.slice (some ⟨g, 0, none⟩) (xs.length + 1) cap)) w') :
    if Region.wanted o (yielded ops a.tmps) = true then Oper.wp P o a w K Q else E := by
  have hw : Region.wanted o (yielded ops a.tmps) = true := by simp [Region.wanted, hgd]
  rw [if_pos hw]
  have hnews : ∀ (k : Nat) (u : Value), [vint j][k]? = some u → w.cell? ((⟨B, 0, none⟩ : Addr).add k) = some u := by
    intro k u hu
    cases k with
    | zero => rw [add0]; simp at hu; rw [← hu]; simp [World.cell?, hB]
    | succ k => simp at hu
  have e1 : (xs ++ [j]).map vint = xs.map vint ++ [vint j] := by simp
  have fin : ∀ v' w', (Builtin.append_ #[t, t] o.type #[v, .slice (some ⟨B, 0, none⟩) 1 1]).run P w = .ok v' w' → K (a.put o.dst v') w' → o.wp P a w K Q := by
    intro v' w' hrun hk
    unfold Oper.wp execOp
    simp only [ho, resolve, invoke, builtin, Sem.run_bind, Sem.run_pure, Result.andThen_ok, List.map_toArray, List.map_cons, List.map_nil, hs, hx, hrun]
    exact hk
  have grow : ∀ v' w', w'.ownsRow w.heap.size 3 1 v' (xs.length + 1) (xs.map vint ++ [vint j]) → w.grownBy w' none → K (a.put o.dst v') w' := by
    intro v' w' h1 h2
    obtain ⟨g, cap, rfl, hg, hlt⟩ := h1.form (by omega)
    refine h g cap w' ⟨?_, fun hn => by simp at hn⟩ hlt (.inr ⟨hg, (Keeps.refl _ w).grown h2 (fun k hk => by cases hk)⟩)
    rw [e1, List.length_append]
    exact ⟨h1.1, h1.2.imp id (fun ⟨g, cap, cur, a, b, c⟩ => ⟨g, cap, cur, a, Nat.zero_le _, c⟩)⟩
  rcases hr.form with ⟨rfl, rfl⟩ | ⟨g, cap, cur, rfl, hpos, hh, h1, h2, h3, h4⟩
  · obtain ⟨v', w', hrun, r1, r2, _⟩ := run_append_own (P := P) w w.heap.size t o.type 3 i z 1 8 ht hi hz hs1 hb8 hzs (by omega) (.slice none 0 0) 0 [] (World.ownsRow_nil w _ _ 1) ⟨B, 0, none⟩ 1 1 [vint j] rfl hnews (by simp [Value.oneCell']) (by simp [maxLen]) (by omega) (Nat.le_refl _)
    exact fin _ _ hrun (grow v' w' (by simpa using r1) r2)
  · by_cases hroom : xs.length + 1 ≤ cap
    · obtain ⟨v', w', hrun, r1, r2, _⟩ := run_append_own (P := P) w 0 t o.type 3 i z 1 8 ht hi hz hs1 hb8 hzs (by omega) _ _ _ hr.own ⟨B, 0, none⟩ 1 1 [vint j] rfl hnews (by simp [Value.oneCell']) (by simp only [maxLen]; omega) (by omega) (Nat.zero_le _)
      have hrun2 := run_append_room_cells (P := P) w t o.type 3 i ht hi g 0 xs.length cap ⟨B, 0, none⟩ 1 1 [vint j] (by simp [hs1]) hnews (by simp [Value.oneCell']) hroom
        (fun k hk => by simp at hk; subst hk; simp [World.cell?, hh, hs1, h3]; omega) (fun k hk => by simp [World.frozen?, hh])
      have e2 := hrun.symm.trans hrun2
      injection e2 with e3 e4
      subst e3
      refine fin _ _ hrun (h g cap w' ⟨?_, fun hn => by simp at hn⟩ ?_ (.inl ⟨rfl, (Keeps.refl _ w).grown r2 (fun k hk _ => by simp [Value.ownBlock] at hk; exact hk.symm)⟩))
      · rw [e1, List.length_append]; exact r1
      · exact (r1.lt g rfl).2
    · obtain ⟨v', w', hrun, r1, r2⟩ := run_append_arg_grows (P := P) w t o.type 3 i z 1 8 ht hi hz hs1 hb8 hzs (by omega) ⟨g, 0, none⟩ xs.length cap (xs.map vint) (by simp) hr.cellsOf ⟨B, 0, none⟩ 1 1 [vint j] rfl hnews (by omega) (by simp only [maxLen]; omega) (by omega)
      exact fin _ _ hrun (grow v' w' r1 r2)
end Go.Proofs.Ytnphhibfiklfjaa
