/-
  A region that draws its order, its callees only read: WITHIN A ROUND of a range over a function.
-/
import Derived.Test.YtnphhibfiklfjaaPkA

import Derived.Lib.QuietBelowIn

set_option linter.unusedVariables false

set_option linter.unusedSimpArgs false

namespace Go.Proofs.Ytnphhibfiklfjaa

open Go.RowKit Go.Shelf Go.Sort

section

variable {F : Fence} {n : Nat} {P : Program} {ops : Array Oper} {md : Region.Mode} {C : World → Prop}

theorem opIn_of_quiet {o : Oper} {a : Act} {K : Act → Prop} {K' : Act → World → Prop} {Q' : Exit → Act → World → Prop} {w : World} (hnd : ∀ c, o.op ≠ .defer c) (hw : C w) (h : ∀ a w', C w' → K a → K' a w')
    (ha : o.askedIn F P a C) (hh : o.quietIn F n P a C K) : o.wpIn F n P a w K' Q' := by
  obtain ⟨v, h1, h2⟩ := hh
  have h3 := h1 w hw
  unfold Oper.quietAtIn at h3
  unfold Oper.wpIn
  refine ⟨ha w hw, ?_⟩
  rw [Oper.semAt_eq _ _ _ hnd]
  generalize (execOp a.eval o).run P w = r at *
  cases r with
  | ok x w' =>
    cases x <;> simp only [Oper.quietUponIn] at h3 <;> simp only [Oper.uponIn]
    case value u =>
      obtain ⟨e1, e2⟩ := h3
      rw [e1, e2]
      exact h _ _ hw h2
    case skip =>
      obtain ⟨e1, e2⟩ := h3
      rw [e1, ← e2]
      exact h _ _ hw h2
    case enter f args =>
      obtain ⟨e1, hd, hc⟩ := h3
      rw [e1]
      exact ⟨hd, hc.mono fun e w'' ⟨he, hw''⟩ => by subst he; exact h _ _ hw'' h2⟩
  | halt x w' => simp only [Oper.quietUponIn] at h3
theorem anyIn_of_quiet {Q : Act → Prop} {Q' : Exit → Act → World → Prop} (hnd : ∀ (i : Nat) (o : Oper), ops[i]? = some o → ∀ c, o.op ≠ .defer c) (hQ : ∀ a w, C w → Q a → Q' .normal a w) : ∀ (fuel : Nat) (listed : Array Bool) (a : Act) (w : World), C w →
    wpAnyQIn F n P md ops C Q fuel listed a → wpAnyIn F n P md ops Q' fuel listed a w
  | 0, _, _, _, hw, h => ⟨h.1, hQ _ _ hw h.2⟩
  | fuel + 1, listed, a, w, hw, h => ⟨fun h0 => hQ _ _ hw (h.1 h0), fun i hi => by
    have hq := h.2 i hi
    unfold qOpIn at hq
    unfold wpOpIn
    split
    · rename_i ho; simp only [ho] at hq; exact anyIn_of_quiet hnd hQ fuel _ _ _ hw hq
    · rename_i o ho
      simp only [ho] at hq
      obtain ⟨ha, hq⟩ := hq
      split
      · rename_i hww; simp only [hww, if_true] at hq; exact opIn_of_quiet (hnd i o ho) hw (fun a' w' hw' => anyIn_of_quiet hnd hQ fuel _ a' w' hw') ha hq
      · rename_i hww; simp only [hww] at hq; exact ⟨ha w hw, anyIn_of_quiet hnd hQ fuel _ _ _ hw hq⟩⟩
def noDefer (l : List Oper) : Bool := l.all fun o => match o.op with | .defer _ => false | _ => true
theorem noDefer_spec {l : List Oper} (h : noDefer l = true) : ∀ (i : Nat) (o : Oper), l.toArray[i]? = some o → ∀ c, o.op ≠ .defer c := by
  intro i o ho c hc
  unfold noDefer at h
  rw [List.all_eq_true] at h
  have := h o (List.mem_of_getElem? (by simpa using ho))
  rw [hc] at this
  simp at this
/-- ONE WALK, IN THE ORDER OF THE TEXT. -/
theorem region_round {id : Nat} {Q : Exit → Act → World → Prop} {a : Act} {w : World} {l : List Oper} (hm : P.follows .mixedOrders = true) (hB : Region.lexB .any l.toArray = true) (hnd : noDefer l = true)
    (h : wpQuietIn F n P l.toArray (fun w' => ∃ p : Regrown, w' = grow (redrawn w p.d) p.os) (fun a' => ∀ w', Keeps (fun _ => False) w w' → Q .normal a' w') l a) : (Code.region id l.toArray true).wpIn F n P Q a w := by
  simp only [Region.lexB, Bool.and_eq_true] at hB
  refine wpIn_region_any hm (anyIn_of_quiet (C := fun w' => ∃ p : Regrown, w' = grow (redrawn w p.d) p.os) (Q := fun a' => ∀ w', Keeps (fun _ => False) w w' → Q .normal a' w') (noDefer_spec hnd) (fun _ w' ⟨p, hp⟩ h => h w' (by rw [hp]; exact Keeps.of_below (below_regrown _ _ _))) _ _ _ _ ⟨⟨w.drawn + 1, #[]⟩, by rw [grow_empty]; rfl⟩ ?_)
  have := wpAnyQIn_lex (F := F) (n := n) (md := .any) hB.1 l 0 (Array.replicate l.toArray.size false) a (by simp) (by simpa using hB.2) h
  simpa using this
end

/-- A callee that leaves all that was there. -/
theorem quiet_call {l₀ r : Nat} {P : Program} {f : FuncId} {args : Array Value} {w : World} {d : Nat} {os : Array Obj} {v : Value}
    (h : ∀ W, Keeps (fun _ => False) w W → Calls P f args W (fun e w' => e = .returned v ∧ Keeps (fun _ => False) W w')) :
    CallsIn (Fence.wide.inRound l₀) r P f args (grow (redrawn w d) os) fun e w'' => e = .returned v ∧ ∃ p : Regrown, w'' = grow (redrawn w p.d) p.os :=
  CallsIn.regrown_of ((CallsIn.inRound _ (callsIn_wide.2 (h _ (Keeps.of_below (below_regrown w d os))))).mono fun e w' ⟨he, hk⟩ => ⟨he, hk.below (fun _ h => h.elim) (Nat.le_refl _)⟩)
theorem quiet_call0 {P : Program} {f : FuncId} {args : Array Value} {w : World} {d : Nat} {os : Array Obj} {v : Value}
    (h : ∀ W, Keeps (fun _ => False) w W → Calls P f args W (fun e w' => e = .returned v ∧ Keeps (fun _ => False) W w')) :
    Calls P f args (grow (redrawn w d) os) fun e w'' => e = .returned v ∧ ∃ p : Regrown, w'' = grow (redrawn w p.d) p.os :=
  Calls.regrown_of ((h _ (Keeps.of_below (below_regrown w d os))).mono fun e w' ⟨he, hk⟩ => ⟨he, hk.below (fun _ h => h.elim) (Nat.le_refl _)⟩)
theorem keeps_regrown {w W : World} (h : ∃ p : Regrown, W = grow (redrawn w p.d) p.os) : Keeps (fun _ => False) w W := by
  obtain ⟨p, rfl⟩ := h
  exact Keeps.of_below (below_regrown _ _ _)
/-- One mark after another. -/
def markOf (D : Nat) : Deferred := { target := .collected D, args := #[] }
theorem ret_marks {P : Program} {fn : Func} {R : Ending → World → Prop} {tmps : Array Value} {n : Nat} : ∀ (Ds : List Nat) (W : World), Ds.Nodup → (∀ D ∈ Ds, W.heap[D]? = some (.deferred (some []))) →
    (∀ W', Keeps (fun b => b ∈ Ds) W W' → ∃ v, (results fn tmps).run P W' = .ok v W' ∧ R (.returned v) W') → bodyPostM Fence.wide n P fn R .ret { tmps := tmps, defers := Ds.map markOf } W
  | [], W, _, _, h => h W (Keeps.refl _ _)
  | D :: Ds, W, hnd, hD, h => by
    have hnd := List.nodup_cons.1 hnd
    refine ⟨by simp [markOf], .inl ⟨_, _, rfl, run_takeDeferred (hD D (by simp)), ?_⟩⟩
    refine ret_marks Ds (W.putObj D (.deferred none)) hnd.2 (fun D' hD' => ?_) (fun W' hk => h W' ?_)
    · rw [World.putObj_heap_other (show D' ≠ D from fun e => hnd.1 (by rw [← e]; exact hD'))]
      exact hD D' (List.mem_cons_of_mem _ hD')
    · exact ((Keeps.putObj W D _).mono (S' := fun b => b ∈ D :: Ds) (fun b hb _ => by rw [hb]; exact List.mem_cons_self ..)).trans' hk (fun b hb _ => List.mem_cons_of_mem _ hb)
end Go.Proofs.Ytnphhibfiklfjaa
