/-
  A range over a function whose values lie in memory: what the iterator promises its rounds, what the rounds promise the iterator.
-/
import Derived.Test.YtnphhibfiklfjaaFo
import Derived.RangeFuncNested
import Derived.RangeFuncBound
import Derived.RangeFuncCalls
import Derived.RangeFuncLeaves
import Derived.Shelf.Abstract
import Derived.Shelf.RegionOpen
import Derived.OwnWalkIn
import Derived.TacticsInMore
import Derived.LoopNIn
import Derived.LoopIn
set_option linter.unusedVariables false
set_option linter.unusedSimpArgs false
namespace Go.Proofs.Ytnphhibfiklfjaa
open Go.RowKit Go.Shelf

theorem Keeps.putObj (w : World) (l : Nat) (o : Obj) : Keeps (fun b => b = l) w (w.putObj l o) :=
  ⟨rfl, rfl, rfl, by simp, fun _ _ hn => World.putObj_heap_other hn⟩
/-- What hangs on the blocks of B alone. -/
def Stab (J : (Nat → Prop) → World → Prop) : Prop := ∀ B W W', J B W → Keeps (fun b => ¬ B b) W W' → J B W'
/-- What a round owes: B: the blocks that are its own; Y: those that it is handed. -/
def RoundR (J : (Nat → Prop) → World → Prop) (Jx : (Nat → Prop) → World → Prop) (B Y : Nat → Prop) (W : World) (e : Ending) (W' : World) : Prop :=
  ∃ B', (∀ b, B' b → (B b ∨ Y b ∨ W.heap.size ≤ b) ∧ b < W'.heap.size) ∧ Keeps (fun b => B b ∨ Y b) W W' ∧ ((e = .returned (.bool true) ∧ J B' W') ∨ (e = .returned (.bool false) ∧ Jx B' W'))
/-- An iterator of N rounds: It: the blocks that it reads; G j vs Y W: the j-th round's values, in blocks of Y, in world W. -/
def IterOK (P : Program) (gf : Nat) (lb : Array Value) (N : Nat) (G : Nat → Array Value → (Nat → Prop) → World → Prop) (It : Nat → Prop) (w : World) : Prop :=
  ∀ (n l : Nat) (J : Nat → (Nat → Prop) → World → Prop) (Jx : (Nat → Prop) → World → Prop) (B0 : Nat → Prop) (W : World), (∀ j, Stab (J j)) → Stab Jx → Keeps (fun b => ¬ It b) w W →
    (∀ b, B0 b → b < W.heap.size ∧ ¬ It b) → J 0 B0 W →
    (∀ m j B Y vs W1, j < N → (∀ b, B b → b < W1.heap.size) → J j B W1 → G j vs Y W1 → (∀ b, Y b → ¬ B b ∧ W.heap.size ≤ b ∧ b < W1.heap.size) → W.heap.size ≤ W1.heap.size → Keeps (fun b => ¬ It b) w W1 → YieldAt Fence.wide m P l vs W1 (RoundR (J (j + 1)) Jx B Y W1)) →
    CallsIn Fence.wide n P gf (#[.func (.yield l) #[] #[]] ++ lb) W fun e W' => (∃ v, e = .returned v) ∧ (∃ B', J N B' W' ∨ Jx B' W') ∧ Keeps (fun b => ¬ It b) w W' ∧ W.heap.size ≤ W'.heap.size

/-- How the body of a round may be left. -/
def bodyR (J : Nat → (Nat → Prop) → World → Prop) (Jx : Code → (Nat → Prop) → World → Prop) (j : Nat) (B Y : Nat → Prop) (W W2 : World) : Exit → Act → World → Prop
  | .normal, _, W' => ∃ B', (∀ b, B' b → (B b ∨ Y b ∨ W.heap.size ≤ b) ∧ b < W'.heap.size) ∧ Keeps (fun b => B b ∨ Y b) W2 W' ∧ J (j + 1) B' W'
  | .ret, _, W' => ∃ B', (∀ b, B' b → (B b ∨ Y b ∨ W.heap.size ≤ b) ∧ b < W'.heap.size) ∧ Keeps (fun b => B b ∨ Y b) W2 W' ∧ Jx .ret B' W'
  | .exit id, _, W' => ∃ B', (∀ b, B' b → (B b ∨ Y b ∨ W.heap.size ≤ b) ∧ b < W'.heap.size) ∧ Keeps (fun b => B b ∨ Y b) W2 W' ∧ Jx (.exit id) B' W'
  | .goto t, _, W' => ∃ B', (∀ b, B' b → (B b ∨ Y b ∨ W.heap.size ≤ b) ∧ b < W'.heap.size) ∧ Keeps (fun b => B b ∨ Y b) W2 W' ∧ Jx (.goto t) B' W'
  | _, _, _ => False

theorem roundAny {m m' : Nat} {P : Program} {l : Nat} {f : FuncId} {tmps : Array Value} {assign body : Code} {w : World} {R : Ending → World → Prop}
    (h : RoundIn Fence.wide m P l f tmps assign body w R) : RoundIn Fence.wide m' P l f tmps assign body w R := ⟨h.1, fun c cs _ => h.2 c cs (room_wide _)⟩
theorem range_law2 {P : Program} {g : Operand} {ps : Array Tmp} {assign body : Code} {Q : Exit → Act → World → Prop} {a : Act} {w : World} (n : Nat)
    {gf : Nat} {lb : Array Value} (hg : a.eval g = .func (.func gf) #[] lb) (eg : ∀ args w, (callFunc gf args).run P w = .ok (.enter gf args) w)
    {N : Nat} {G : Nat → Array Value → (Nat → Prop) → World → Prop} {It : Nat → Prop} {w0 : World} (hit : IterOK P gf lb N G It w0) (hk0 : Keeps (fun b => ¬ It b) w0 w) (hIt0 : ∀ b, It b → b < w0.heap.size)
    (hps : ∀ j vs Y W, G j vs Y W → vs.size = ps.size)
    (J : Nat → (Nat → Prop) → World → Prop) (Jx : Code → (Nat → Prop) → World → Prop) (hJ : ∀ j, Stab (J j)) (hJx : ∀ c, Stab (Jx c)) (B0 : Nat → Prop) (hB0 : ∀ b, B0 b → b < w.heap.size ∧ ¬ It b) (h0 : J 0 B0 w)
    (hround : ∀ j B Y vs W, j < N → (∀ b, B b → b < W.heap.size) → J j B W → G j vs Y W → (∀ b, Y b → ¬ B b ∧ w.heap.size + 1 < b ∧ b < W.heap.size) → (∀ b, B b → b ≠ w.heap.size ∧ b ≠ w.heap.size + 1) → w.heap.size + 1 < W.heap.size → Keeps (fun b => ¬ It b) w0 W →
      assign.wpIn (Fence.wide.inRound (w.heap.size + 1)) n P (Exit.then (fun a₁ W₁ => Keeps (fun b => B b ∨ Y b) W W₁ ∧ ∀ W₂, Keeps (fun b => b = w.heap.size + 1) W₁ W₂ → (∃ r, W₂.heap[w.heap.size + 1]? = some (.loop r)) → body.wpIn (Fence.wide.inRound (w.heap.size + 1)) n P (bodyR J Jx j B Y W W₂) a₁ W₂) (fun _ _ _ => False))
        { tmps := (ps.zip vs).foldl (fun t (p, v) => t.setIfInBounds p v) a.tmps, defers := [] } W)
    (hdone : ∀ (B : Nat → Prop) (W : World), J N B W → W.heap[w.heap.size]? = some (.deferred (some [])) → Keeps (fun b => ¬ It b) w W → (∀ b, B b → b ≠ w.heap.size) → Q .normal { a with defers := { target := .collected w.heap.size, args := #[] } :: a.defers } W)
    (hstop : ∀ (c : Code) (B : Nat → Prop) (W : World), Jx c B W → W.heap[w.heap.size]? = some (.deferred (some [])) → Keeps (fun b => ¬ It b) w W → (∀ b, B b → b ≠ w.heap.size) → c.wpIn Fence.wide (n + 2) P Q { a with defers := { target := .collected w.heap.size, args := #[] } :: a.defers } W) :
    (Code.rangeFunc g ps assign body).wpIn Fence.wide (n + 2) P Q a w := by
  have hItl : ∀ b, It b → b < w.heap.size := fun b hb => Nat.lt_of_lt_of_le (hIt0 b hb) hk0.size
  refine wpIn_rangeFunc ?_
  intro fn hfn
  obtain ⟨rec, hrec⟩ : ∃ rec : LoopState → Option Code → Loop, rec = fun st pe => { state := st, pending := pe, fn, tmps := a.tmps, params := ps, assign, body, defers := w.heap.size } := ⟨_, rfl⟩
  obtain ⟨W1, hW1⟩ : ∃ W1, (w.alloc (.deferred (some []))).alloc (.loop (rec .ready none)) = W1 := ⟨_, rfl⟩
  have hL1 : W1.heap[w.heap.size + 1]? = some (.loop (rec .ready none)) := by
    rw [← hW1]; have := World.alloc_heap_new (w.alloc (.deferred (some []))) (.loop (rec .ready none)); rwa [World.size_alloc] at this
  have hD1 : W1.heap[w.heap.size]? = some (.deferred (some [])) := by
    rw [← hW1]; exact (Below.heap_alloc _ _ _ (by simp)).trans (World.alloc_heap_new w _)
  have hK1 : Keeps (fun _ => False) w W1 := by rw [← hW1]; exact ((Keeps.refl _ w).alloc _).alloc _
  have hs1 : W1.heap.size = w.heap.size + 2 := by rw [← hW1]; simp
  refine ⟨w.heap.size + 1, [{ target := .collected w.heap.size, args := #[] }], W1, { target := .fn (.func gf) lb, args := #[.func (.yield (w.heap.size + 1)) #[] #[]] }, W1, gf,
    #[.func (.yield (w.heap.size + 1)) #[] #[]] ++ lb, W1, ?_, ?_, ?_, ?_, fun _ => by omega, ?_⟩
  · rw [← hW1, hrec]; exact run_enterLoop_outer _ _ _ _ _
  · simp only [resolve, hg]
    simp [go_sem]
  · intro f' hf'; exact trivial
  · simp [invoke, go_sem, eg]
  -- the caller's invariant, with the two blocks of book-keeping beside it
  let ex : (Nat → Prop) → Nat → Prop := fun B b => B b ∧ b ≠ w.heap.size ∧ b ≠ w.heap.size + 1
  let J' : Nat → (Nat → Prop) → World → Prop := fun j B W => J j (ex B) W ∧ B w.heap.size ∧ B (w.heap.size + 1) ∧ w.heap.size + 1 < W.heap.size ∧ W.heap[w.heap.size + 1]? = some (.loop (rec .ready none)) ∧ W.heap[w.heap.size]? = some (.deferred (some []))
  let Jx' : (Nat → Prop) → World → Prop := fun B W => ∃ c, Jx c (ex B) W ∧ B w.heap.size ∧ B (w.heap.size + 1) ∧ W.heap[w.heap.size + 1]? = some (.loop (rec .done (some c))) ∧ W.heap[w.heap.size]? = some (.deferred (some []))
  have hblk : ∀ {B : Nat → Prop} {W W' : World} {b : Nat} {o : Obj}, Keeps (fun b => ¬ B b) W W' → B b → W.heap[b]? = some o → W'.heap[b]? = some o := fun hk hb h => (hk.block _ (Array.getElem?_eq_some_iff.1 h).1 (fun h' => h' hb)).trans h
  have hexK : ∀ {B : Nat → Prop} {W W' : World}, Keeps (fun b => ¬ B b) W W' → Keeps (fun b => ¬ ex B b) W W' := fun hk => hk.mono fun b hb _ h => hb h.1
  have hJ' : ∀ j, Stab (J' j) := fun j B W W' ⟨h1, h2, h3, h4, h5, h6⟩ hk => ⟨hJ j _ _ _ h1 (hexK hk), h2, h3, Nat.lt_of_lt_of_le h4 hk.size, hblk hk h3 h5, hblk hk h2 h6⟩
  have hJx' : Stab Jx' := fun B W W' ⟨c, h1, h2, h3, h5, h6⟩ hk => ⟨c, hJx c _ _ _ h1 (hexK hk), h2, h3, hblk hk h3 h5, hblk hk h2 h6⟩
  let B1 : Nat → Prop := fun b => B0 b ∨ b = w.heap.size ∨ b = w.heap.size + 1
  have hexB1 : ex B1 = B0 := by
    funext b
    apply propext
    constructor
    · rintro ⟨h | h | h, h2, h3⟩
      · exact h
      · exact absurd h h2
      · exact absurd h h3
    · intro h
      have := (hB0 b h).1
      exact ⟨.inl h, by omega, by omega⟩
  have hIt1 : Keeps (fun b => ¬ It b) w0 W1 := hk0.trans (hK1.mono fun _ h _ => h.elim)
  refine (hit _ (w.heap.size + 1) J' Jx' B1 W1 hJ' hJx' hIt1 (fun b hb => ?_) ⟨?_, .inr (.inl rfl), .inr (.inr rfl), by omega, hL1, hD1⟩ ?_).mono ?_
  · rcases hb with hb | hb | hb
    · have := hB0 b hb; exact ⟨by omega, this.2⟩
    · exact ⟨by omega, fun h => by have := hItl b h; omega⟩
    · exact ⟨by omega, fun h => by have := hItl b h; omega⟩
  · rw [hexB1]; exact hJ 0 _ _ _ h0 (hK1.mono fun _ h _ => h.elim)
  · -- one round
    rintro m j B Y vs W hj hBl ⟨hj1, hbD, hbL, hsz, hl, hd⟩ hG hY hle hItW
    have hy := run_yield (P := P) (args := vs) hl (by rw [hrec]; exact hps j vs Y W hG)
    rw [hrec] at hy
    have hYD : ¬ Y w.heap.size ∧ ¬ Y (w.heap.size + 1) := ⟨fun h => by have := (hY _ h).2.1; omega, fun h => by have := (hY _ h).2.1; omega⟩
    refine ⟨fn, _, assign, body, hy, ?_⟩
    have hwr := hround j (ex B) Y vs W hj (fun b hb => hBl b hb.1) hj1 hG (fun b hb => ⟨fun h => (hY b hb).1 h.1, by have := (hY b hb).2; omega⟩) (fun b hb => hb.2) (by omega) hItW
    refine roundAny (m := n) (roundIn_of_wpIn (n := n) trivial (wpIn_mono hwr ?_))
    intro e a1 Wa hpost
    cases e with
    | normal =>
      obtain ⟨hka, hb2⟩ := hpost
      have hla : Wa.heap[w.heap.size + 1]? = some (.loop (rec .ready none)) := (hka.block _ hsz (fun h => h.elim (fun h => h.2.2 rfl) hYD.2)).trans hl
      have hda : Wa.heap[w.heap.size]? = some (.deferred (some [])) := (hka.block _ (by omega) (fun h => h.elim (fun h => h.2.1 rfl) hYD.1)).trans hd
      refine ⟨_, run_beginRound hla (by rw [hrec]), ?_⟩
      refine wpIn_mono (hb2 _ (Keeps.putObj _ _ _) ⟨_, World.putObj_heap_same (Nat.lt_of_lt_of_le hsz hka.size)⟩) ?_
      have hsza : w.heap.size + 1 < Wa.heap.size := Nat.lt_of_lt_of_le hsz hka.size
      have hl2 : (Wa.putObj (w.heap.size + 1) (.loop { rec .ready none with state := .busy })).heap[w.heap.size + 1]? = some (.loop { rec .ready none with state := .busy }) := World.putObj_heap_same hsza
      have hd2 : (Wa.putObj (w.heap.size + 1) (.loop { rec .ready none with state := .busy })).heap[w.heap.size]? = some (.deferred (some [])) := (World.putObj_heap_other (by omega)).trans hda
      -- the round's end
      have fin : ∀ (jump : Option Code) (B' : Nat → Prop) (W3 : World), (∀ b, B' b → (ex B b ∨ Y b ∨ W.heap.size ≤ b) ∧ b < W3.heap.size) → Keeps (fun b => ex B b ∨ Y b) (Wa.putObj (w.heap.size + 1) (.loop { rec .ready none with state := .busy })) W3 →
          ∃ W4, (Instr.endRound (w.heap.size + 1) jump).run P W3 = .ok (.bool jump.isNone) W4 ∧ W4.heap[w.heap.size + 1]? = some (.loop (rec (if jump.isNone then .ready else .done) jump)) ∧ W4.heap[w.heap.size]? = some (.deferred (some [])) ∧ w.heap.size + 1 < W4.heap.size ∧
            Keeps (fun b => b = w.heap.size + 1) W3 W4 ∧ Keeps (fun b => B b ∨ Y b) W W4 ∧ (∀ b, (B' b ∨ b = w.heap.size ∨ b = w.heap.size + 1) → (B b ∨ Y b ∨ W.heap.size ≤ b) ∧ b < W4.heap.size) ∧ ex (fun b => B' b ∨ b = w.heap.size ∨ b = w.heap.size + 1) = B' ∧ ¬ B' (w.heap.size + 1) := by
        intro jump B' W3 hB' hk3
        have hsz3 : w.heap.size + 1 < W3.heap.size := by have := hk3.size; simp at this; omega
        have hl3 : W3.heap[w.heap.size + 1]? = some (.loop { rec .ready none with state := .busy }) := (hk3.block _ (by simpa using hsza) (fun h => h.elim (fun h => h.2.2 rfl) hYD.2)).trans hl2
        have hd3 : W3.heap[w.heap.size]? = some (.deferred (some [])) := (hk3.block _ (by simp; omega) (fun h => h.elim (fun h => h.2.1 rfl) hYD.1)).trans hd2
        have hr := run_endRound (P := P) jump hl3
        rw [hrec] at hr
        have hk4 := Keeps.putObj W3 (w.heap.size + 1) (.loop (rec (if jump.isNone then .ready else .done) jump))
        have hkW : Keeps (fun b => B b ∨ Y b) W W3 :=
          ((hka.mono (S' := fun b => B b ∨ Y b) (fun b hb _ => hb.imp_left And.left)).trans' (Keeps.putObj Wa (w.heap.size + 1) _) (fun b hb _ => .inl (hb ▸ hbL))).trans' hk3 (fun b hb _ => hb.imp_left And.left)
        have hnD : ¬ B' w.heap.size := fun h => by
          rcases (hB' _ h).1 with h | h | h
          · exact h.2.1 rfl
          · exact hYD.1 h
          · omega
        have hnL : ¬ B' (w.heap.size + 1) := fun h => by
          rcases (hB' _ h).1 with h | h | h
          · exact h.2.2 rfl
          · exact hYD.2 h
          · omega
        refine ⟨W3.putObj (w.heap.size + 1) (.loop (rec (if jump.isNone then .ready else .done) jump)), by rw [hrec]; exact hr, World.putObj_heap_same hsz3, (World.putObj_heap_other (by omega)).trans hd3, by simpa using hsz3, hk4, hkW.trans' hk4 (fun b hb _ => .inl (hb ▸ hbL)), ?_, ?_, hnL⟩
        · rintro b (h | rfl | rfl)
          · exact ⟨(hB' _ h).1.imp_left And.left, by simpa using (hB' _ h).2⟩
          · exact ⟨.inl hbD, by simp; omega⟩
          · exact ⟨.inl hbL, by simpa using hsz3⟩
        · funext b
          apply propext
          constructor
          · rintro ⟨h | h | h, h2, h3⟩
            · exact h
            · exact absurd h h2
            · exact absurd h h3
          · intro h
            exact ⟨.inl h, fun e => hnD (e ▸ h), fun e => hnL (e ▸ h)⟩
      have stop : ∀ (c : Code) (B' : Nat → Prop) (W3 : World), (∀ b, B' b → (ex B b ∨ Y b ∨ W.heap.size ≤ b) ∧ b < W3.heap.size) → Keeps (fun b => ex B b ∨ Y b) (Wa.putObj (w.heap.size + 1) (.loop { rec .ready none with state := .busy })) W3 → Jx c B' W3 →
          ∃ v W4, (Instr.endRound (w.heap.size + 1) (some c)).run P W3 = .ok v W4 ∧ RoundR (J' (j + 1)) Jx' B Y W (.returned v) W4 := by
        intro c B' W3 hB' hk3 hj3
        obtain ⟨W4, hr, hl4, hd4, hs4, hk34, hkW, hBB, hex, hnL⟩ := fin (some c) B' W3 hB' hk3
        exact ⟨_, W4, hr, _, hBB, hkW, .inr ⟨rfl, c, by rw [hex]; exact hJx c _ _ _ hj3 (hk34.mono fun b hb _ h => hnL (hb ▸ h)), .inr (.inl rfl), .inr (.inr rfl), hl4, hd4⟩⟩
      rintro e a3 W3 hp
      cases e with
      | normal =>
        obtain ⟨B', hB', hk3, hj3⟩ := hp
        obtain ⟨W4, hr, hl4, hd4, hs4, hk34, hkW, hBB, hex, hnL⟩ := fin none B' W3 hB' hk3
        exact ⟨_, W4, hr, _, hBB, hkW, .inl ⟨rfl, by rw [hex]; exact hJ _ _ _ _ hj3 (hk34.mono fun b hb _ h => hnL (hb ▸ h)), .inr (.inl rfl), .inr (.inr rfl), hs4, hl4, hd4⟩⟩
      | ret =>
        obtain ⟨B', hB', hk3, hj3⟩ := hp
        exact stop .ret B' W3 hB' hk3 hj3
      | exit id =>
        obtain ⟨B', hB', hk3, hj3⟩ := hp
        exact stop (.exit id) B' W3 hB' hk3 hj3
      | goto t =>
        obtain ⟨B', hB', hk3, hj3⟩ := hp
        exact stop (.goto t) B' W3 hB' hk3 hj3
      | panic ch => exact hp.elim
      | outgrown => exact hp.elim
    | exit id => exact hpost.elim
    | goto t => exact hpost.elim
    | ret => exact hpost.elim
    | panic ch => exact hpost.elim
    | outgrown => exact hpost.elim
  · -- behind the iterator
    rintro e W2 ⟨⟨v, rfl⟩, ⟨B', hend⟩, hIt2, hsz⟩
    have hkE : ∀ o, Keeps (fun b => ¬ It b) w (W2.putObj (w.heap.size + 1) o) := fun o =>
      ⟨hIt2.os.trans hk0.os.symm, hIt2.tape.trans hk0.tape.symm, hIt2.output.trans hk0.output.symm, by simp; omega, fun b hb hI => (World.putObj_heap_other (by omega)).trans ((hIt2.block b (hIt0 b (Classical.not_not.1 hI)) hI).trans (hk0.block b (hIt0 b (Classical.not_not.1 hI)) hI).symm)⟩
    rcases hend with ⟨h1, h2, h3, h4, h5, h6⟩ | ⟨c, h1, h2, h3, h5, h6⟩
    · have hr := run_endLoop (P := P) h5 (by rw [hrec]; simp)
      rw [hrec] at hr
      exact ⟨none, _, hr, hdone _ _ (hJ N _ _ _ h1 ((Keeps.putObj _ _ _).mono fun b hb _ h => h.2.2 hb)) ((World.putObj_heap_other (by omega)).trans h6) (hkE _) (fun b hb => hb.2.1)⟩
    · have hr := run_endLoop (P := P) h5 (by rw [hrec]; simp)
      rw [hrec] at hr
      exact ⟨some c, _, hr, hstop c _ _ (hJx c _ _ _ h1 ((Keeps.putObj _ _ _).mono fun b hb _ h => h.2.2 hb)) ((World.putObj_heap_other (by omega)).trans h6) (hkE _) (fun b hb => hb.2.1)⟩
theorem range_law {P : Program} {g : Operand} {ps : Array Tmp} {assign body : Code} {Q : Exit → Act → World → Prop} {a : Act} {w : World} (n : Nat)
    {gf : Nat} {lb : Array Value} (hg : a.eval g = .func (.func gf) #[] lb) (eg : ∀ args w, (callFunc gf args).run P w = .ok (.enter gf args) w)
    {N : Nat} {G : Nat → Array Value → (Nat → Prop) → World → Prop} {It : Nat → Prop} {w0 : World} (hit : IterOK P gf lb N G It w0) (hk0 : Keeps (fun b => ¬ It b) w0 w) (hIt0 : ∀ b, It b → b < w0.heap.size)
    (hps : ∀ j vs Y W, G j vs Y W → vs.size = ps.size)
    (J : Nat → (Nat → Prop) → World → Prop) (Jx : Code → (Nat → Prop) → World → Prop) (hJ : ∀ j, Stab (J j)) (hJx : ∀ c, Stab (Jx c)) (B0 : Nat → Prop) (hB0 : ∀ b, B0 b → b < w.heap.size ∧ ¬ It b) (h0 : J 0 B0 w)
    (hround : ∀ j B Y vs W, j < N → (∀ b, B b → b < W.heap.size) → J j B W → G j vs Y W → (∀ b, Y b → ¬ B b ∧ w.heap.size + 1 < b ∧ b < W.heap.size) → (∀ b, B b → b ≠ w.heap.size ∧ b ≠ w.heap.size + 1) → w.heap.size + 1 < W.heap.size →
      assign.wpIn (Fence.wide.inRound (w.heap.size + 1)) n P (Exit.then (fun a₁ W₁ => Keeps (fun b => B b ∨ Y b) W W₁ ∧ ∀ W₂, Keeps (fun b => b = w.heap.size + 1) W₁ W₂ → body.wpIn (Fence.wide.inRound (w.heap.size + 1)) n P (bodyR J Jx j B Y W W₂) a₁ W₂) (fun _ _ _ => False))
        { tmps := (ps.zip vs).foldl (fun t (p, v) => t.setIfInBounds p v) a.tmps, defers := [] } W)
    (hdone : ∀ (B : Nat → Prop) (W : World), J N B W → W.heap[w.heap.size]? = some (.deferred (some [])) → Keeps (fun b => ¬ It b) w W → (∀ b, B b → b ≠ w.heap.size) → Q .normal { a with defers := { target := .collected w.heap.size, args := #[] } :: a.defers } W)
    (hstop : ∀ (c : Code) (B : Nat → Prop) (W : World), Jx c B W → W.heap[w.heap.size]? = some (.deferred (some [])) → Keeps (fun b => ¬ It b) w W → (∀ b, B b → b ≠ w.heap.size) → c.wpIn Fence.wide (n + 2) P Q { a with defers := { target := .collected w.heap.size, args := #[] } :: a.defers } W) :
    (Code.rangeFunc g ps assign body).wpIn Fence.wide (n + 2) P Q a w :=
  range_law2 n hg eg hit hk0 hIt0 hps J Jx hJ hJx B0 hB0 h0 (fun j B Y vs W h1 h2 h3 h4 h5 h6 h7 _ => wpIn_mono (hround j B Y vs W h1 h2 h3 h4 h5 h6 h7) (fun e a w hq => by
    cases e with
    | normal => exact ⟨hq.1, fun W₂ hk _ => hq.2 W₂ hk⟩
    | exit id => exact hq.elim
    | goto t => exact hq.elim
    | ret => exact hq.elim
    | panic ch => exact hq.elim
    | outgrown => exact hq.elim)) hdone hstop
theorem range_lawN {P : Program} {l₀ : Nat} {g : Operand} {ps : Array Tmp} {assign body : Code} {Q : Exit → Act → World → Prop} {a : Act} {w : World} (n : Nat) {r₀ : Loop} (hl₀ : w.heap[l₀]? = some (.loop r₀))
    {gf : Nat} {lb : Array Value} (hg : a.eval g = .func (.func gf) #[] lb) (eg : ∀ args w, (callFunc gf args).run P w = .ok (.enter gf args) w)
    {N : Nat} {G : Nat → Array Value → (Nat → Prop) → World → Prop} {It : Nat → Prop} {w0 : World} (hit : IterOK P gf lb N G It w0) (hk0 : Keeps (fun b => ¬ It b) w0 w) (hIt0 : ∀ b, It b → b < w0.heap.size)
    (hps : ∀ j vs Y W, G j vs Y W → vs.size = ps.size)
    (J : Nat → (Nat → Prop) → World → Prop) (Jx : Code → (Nat → Prop) → World → Prop) (hJ : ∀ j, Stab (J j)) (hJx : ∀ c, Stab (Jx c)) (B0 : Nat → Prop) (hB0 : ∀ b, B0 b → b < w.heap.size ∧ ¬ It b) (h0 : J 0 B0 w)
    (hround : ∀ j B Y vs W, j < N → (∀ b, B b → b < W.heap.size) → J j B W → G j vs Y W → (∀ b, Y b → ¬ B b ∧ w.heap.size < b ∧ b < W.heap.size) → (∀ b, B b → b ≠ w.heap.size) → w.heap.size < W.heap.size → Keeps (fun b => ¬ It b) w0 W →
      assign.wpIn (Fence.wide.inRound w.heap.size) n P (Exit.then (fun a₁ W₁ => Keeps (fun b => B b ∨ Y b) W W₁ ∧ ∀ W₂, Keeps (fun b => b = w.heap.size) W₁ W₂ → (∃ r, W₂.heap[w.heap.size]? = some (.loop r)) → body.wpIn (Fence.wide.inRound w.heap.size) n P (bodyR J Jx j B Y W W₂) a₁ W₂) (fun _ _ _ => False))
        { tmps := (ps.zip vs).foldl (fun t (p, v) => t.setIfInBounds p v) a.tmps, defers := [] } W)
    (hdone : ∀ (B : Nat → Prop) (W : World), J N B W → Keeps (fun b => ¬ It b) w W → (∀ b, B b → b ≠ w.heap.size) → Q .normal a W)
    (hstop : ∀ (c : Code) (B : Nat → Prop) (W : World), Jx c B W → Keeps (fun b => ¬ It b) w W → (∀ b, B b → b ≠ w.heap.size) → c.wpIn (Fence.wide.inRound l₀) (n + 2) P Q a W) :
    (Code.rangeFunc g ps assign body).wpIn (Fence.wide.inRound l₀) (n + 2) P Q a w := by
  have hItl : ∀ b, It b → b < w.heap.size := fun b hb => Nat.lt_of_lt_of_le (hIt0 b hb) hk0.size
  refine wpIn_rangeFunc ?_
  intro fn hfn
  obtain ⟨rec, hrec⟩ : ∃ rec : LoopState → Option Code → Loop, rec = fun st pe => { state := st, pending := pe, fn, tmps := a.tmps, params := ps, assign, body, defers := r₀.defers } := ⟨_, rfl⟩
  obtain ⟨W1, hW1⟩ : ∃ W1, w.alloc (.loop (rec .ready none)) = W1 := ⟨_, rfl⟩
  have hL1 : W1.heap[w.heap.size]? = some (.loop (rec .ready none)) := by rw [← hW1]; exact World.alloc_heap_new w _
  have hK1 : Keeps (fun _ => False) w W1 := by rw [← hW1]; exact (Keeps.refl _ w).alloc _
  have hs1 : W1.heap.size = w.heap.size + 1 := by rw [← hW1]; simp
  refine ⟨w.heap.size, [], W1, { target := .fn (.func gf) lb, args := #[.func (.yield w.heap.size) #[] #[]] }, W1, gf,
    #[.func (.yield w.heap.size) #[] #[]] ++ lb, W1, ?_, ?_, ?_, ?_, fun _ => by omega, ?_⟩
  · rw [← hW1, hrec]; exact run_enterLoop_inner hl₀ _ _ _ _ _
  · simp only [resolve, hg]
    simp [go_sem]
  · intro f' hf'; exact trivial
  · simp [invoke, go_sem, eg]
  let ex : (Nat → Prop) → Nat → Prop := fun B b => B b ∧ b ≠ w.heap.size
  let J' : Nat → (Nat → Prop) → World → Prop := fun j B W => J j (ex B) W ∧ B w.heap.size ∧ w.heap.size < W.heap.size ∧ W.heap[w.heap.size]? = some (.loop (rec .ready none))
  let Jx' : (Nat → Prop) → World → Prop := fun B W => ∃ c, Jx c (ex B) W ∧ B w.heap.size ∧ W.heap[w.heap.size]? = some (.loop (rec .done (some c)))
  have hblk : ∀ {B : Nat → Prop} {W W' : World} {b : Nat} {o : Obj}, Keeps (fun b => ¬ B b) W W' → B b → W.heap[b]? = some o → W'.heap[b]? = some o := fun hk hb h => (hk.block _ (Array.getElem?_eq_some_iff.1 h).1 (fun h' => h' hb)).trans h
  have hexK : ∀ {B : Nat → Prop} {W W' : World}, Keeps (fun b => ¬ B b) W W' → Keeps (fun b => ¬ ex B b) W W' := fun hk => hk.mono fun b hb _ h => hb h.1
  have hJ' : ∀ j, Stab (J' j) := fun j B W W' ⟨h1, h3, h4, h5⟩ hk => ⟨hJ j _ _ _ h1 (hexK hk), h3, Nat.lt_of_lt_of_le h4 hk.size, hblk hk h3 h5⟩
  have hJx' : Stab Jx' := fun B W W' ⟨c, h1, h3, h5⟩ hk => ⟨c, hJx c _ _ _ h1 (hexK hk), h3, hblk hk h3 h5⟩
  let B1 : Nat → Prop := fun b => B0 b ∨ b = w.heap.size
  have hexB1 : ex B1 = B0 := by
    funext b
    apply propext
    constructor
    · rintro ⟨h | h, h3⟩
      · exact h
      · exact absurd h h3
    · intro h
      have := (hB0 b h).1
      exact ⟨.inl h, by omega⟩
  have hIt1 : Keeps (fun b => ¬ It b) w0 W1 := hk0.trans (hK1.mono fun _ h _ => h.elim)
  refine CallsIn.inRound l₀ ((hit _ w.heap.size J' Jx' B1 W1 hJ' hJx' hIt1 (fun b hb => ?_) ⟨?_, .inr rfl, by omega, hL1⟩ ?_).mono ?_)
  · rcases hb with hb | hb
    · have := hB0 b hb; exact ⟨by omega, this.2⟩
    · exact ⟨by omega, fun h => by have := hItl b h; omega⟩
  · rw [hexB1]; exact hJ 0 _ _ _ h0 (hK1.mono fun _ h _ => h.elim)
  · -- one round
    rintro m j B Y vs W hj hBl ⟨hj1, hbL, hsz, hl⟩ hG hY hle hItW
    have hy := run_yield (P := P) (args := vs) hl (by rw [hrec]; exact hps j vs Y W hG)
    rw [hrec] at hy
    have hYD : ¬ Y w.heap.size := fun h => by have := (hY _ h).2.1; omega
    refine ⟨fn, _, assign, body, hy, ?_⟩
    have hwr := hround j (ex B) Y vs W hj (fun b hb => hBl b hb.1) hj1 hG (fun b hb => ⟨fun h => (hY b hb).1 h.1, by have := (hY b hb).2; omega⟩) (fun b hb => hb.2) (by omega) hItW
    refine roundAny (m := n) (roundIn_of_wpIn (n := n) trivial (wpIn_mono hwr ?_))
    intro e a1 Wa hpost
    cases e with
    | normal =>
      obtain ⟨hka, hb2⟩ := hpost
      have hla : Wa.heap[w.heap.size]? = some (.loop (rec .ready none)) := (hka.block _ hsz (fun h => h.elim (fun h => h.2 rfl) hYD)).trans hl
      refine ⟨_, run_beginRound hla (by rw [hrec]), ?_⟩
      have hsza : w.heap.size < Wa.heap.size := Nat.lt_of_lt_of_le hsz hka.size
      refine wpIn_mono (hb2 _ (Keeps.putObj _ _ _) ⟨_, World.putObj_heap_same hsza⟩) ?_
      have hl2 : (Wa.putObj w.heap.size (.loop { rec .ready none with state := .busy })).heap[w.heap.size]? = some (.loop { rec .ready none with state := .busy }) := World.putObj_heap_same hsza
      have fin : ∀ (jump : Option Code) (B' : Nat → Prop) (W3 : World), (∀ b, B' b → (ex B b ∨ Y b ∨ W.heap.size ≤ b) ∧ b < W3.heap.size) → Keeps (fun b => ex B b ∨ Y b) (Wa.putObj w.heap.size (.loop { rec .ready none with state := .busy })) W3 →
          ∃ W4, (Instr.endRound w.heap.size jump).run P W3 = .ok (.bool jump.isNone) W4 ∧ W4.heap[w.heap.size]? = some (.loop (rec (if jump.isNone then .ready else .done) jump)) ∧ w.heap.size < W4.heap.size ∧
            Keeps (fun b => b = w.heap.size) W3 W4 ∧ Keeps (fun b => B b ∨ Y b) W W4 ∧ (∀ b, (B' b ∨ b = w.heap.size) → (B b ∨ Y b ∨ W.heap.size ≤ b) ∧ b < W4.heap.size) ∧ ex (fun b => B' b ∨ b = w.heap.size) = B' ∧ ¬ B' w.heap.size := by
        intro jump B' W3 hB' hk3
        have hsz3 : w.heap.size < W3.heap.size := by have := hk3.size; simp at this; omega
        have hl3 : W3.heap[w.heap.size]? = some (.loop { rec .ready none with state := .busy }) := (hk3.block _ (by simpa using hsza) (fun h => h.elim (fun h => h.2 rfl) hYD)).trans hl2
        have hr := run_endRound (P := P) jump hl3
        rw [hrec] at hr
        have hk4 := Keeps.putObj W3 w.heap.size (.loop (rec (if jump.isNone then .ready else .done) jump))
        have hkW : Keeps (fun b => B b ∨ Y b) W W3 :=
          ((hka.mono (S' := fun b => B b ∨ Y b) (fun b hb _ => hb.imp_left And.left)).trans' (Keeps.putObj Wa w.heap.size _) (fun b hb _ => .inl (hb ▸ hbL))).trans' hk3 (fun b hb _ => hb.imp_left And.left)
        have hnL : ¬ B' w.heap.size := fun h => by
          rcases (hB' _ h).1 with h | h | h
          · exact h.2 rfl
          · exact hYD h
          · omega
        refine ⟨W3.putObj w.heap.size (.loop (rec (if jump.isNone then .ready else .done) jump)), by rw [hrec]; exact hr, World.putObj_heap_same hsz3, by simpa using hsz3, hk4, hkW.trans' hk4 (fun b hb _ => .inl (hb ▸ hbL)), ?_, ?_, hnL⟩
        · rintro b (h | rfl)
          · exact ⟨(hB' _ h).1.imp_left And.left, by simpa using (hB' _ h).2⟩
          · exact ⟨.inl hbL, by simpa using hsz3⟩
        · funext b
          apply propext
          constructor
          · rintro ⟨h | h, h3⟩
            · exact h
            · exact absurd h h3
          · intro h
            exact ⟨.inl h, fun e => hnL (e ▸ h)⟩
      have stop : ∀ (c : Code) (B' : Nat → Prop) (W3 : World), (∀ b, B' b → (ex B b ∨ Y b ∨ W.heap.size ≤ b) ∧ b < W3.heap.size) → Keeps (fun b => ex B b ∨ Y b) (Wa.putObj w.heap.size (.loop { rec .ready none with state := .busy })) W3 → Jx c B' W3 →
          ∃ v W4, (Instr.endRound w.heap.size (some c)).run P W3 = .ok v W4 ∧ RoundR (J' (j + 1)) Jx' B Y W (.returned v) W4 := by
        intro c B' W3 hB' hk3 hj3
        obtain ⟨W4, hr, hl4, hs4, hk34, hkW, hBB, hex, hnL⟩ := fin (some c) B' W3 hB' hk3
        exact ⟨_, W4, hr, _, hBB, hkW, .inr ⟨rfl, c, by rw [hex]; exact hJx c _ _ _ hj3 (hk34.mono fun b hb _ h => hnL (hb ▸ h)), .inr rfl, hl4⟩⟩
      rintro e a3 W3 hp
      cases e with
      | normal =>
        obtain ⟨B', hB', hk3, hj3⟩ := hp
        obtain ⟨W4, hr, hl4, hs4, hk34, hkW, hBB, hex, hnL⟩ := fin none B' W3 hB' hk3
        exact ⟨_, W4, hr, _, hBB, hkW, .inl ⟨rfl, by rw [hex]; exact hJ _ _ _ _ hj3 (hk34.mono fun b hb _ h => hnL (hb ▸ h)), .inr rfl, hs4, hl4⟩⟩
      | ret =>
        obtain ⟨B', hB', hk3, hj3⟩ := hp
        exact stop .ret B' W3 hB' hk3 hj3
      | exit id =>
        obtain ⟨B', hB', hk3, hj3⟩ := hp
        exact stop (.exit id) B' W3 hB' hk3 hj3
      | goto t =>
        obtain ⟨B', hB', hk3, hj3⟩ := hp
        exact stop (.goto t) B' W3 hB' hk3 hj3
      | panic ch => exact hp.elim
      | outgrown => exact hp.elim
    | exit id => exact hpost.elim
    | goto t => exact hpost.elim
    | ret => exact hpost.elim
    | panic ch => exact hpost.elim
    | outgrown => exact hpost.elim
  · -- behind the iterator
    rintro e W2 ⟨⟨v, rfl⟩, ⟨B', hend⟩, hIt2, hsz⟩
    have hkE : ∀ o, Keeps (fun b => ¬ It b) w (W2.putObj w.heap.size o) := fun o =>
      ⟨hIt2.os.trans hk0.os.symm, hIt2.tape.trans hk0.tape.symm, hIt2.output.trans hk0.output.symm, by simp; omega, fun b hb hI => (World.putObj_heap_other (by omega)).trans ((hIt2.block b (hIt0 b (Classical.not_not.1 hI)) hI).trans (hk0.block b (hIt0 b (Classical.not_not.1 hI)) hI).symm)⟩
    rcases hend with ⟨h1, h3, h4, h5⟩ | ⟨c, h1, h3, h5⟩
    · have hr := run_endLoop (P := P) h5 (by rw [hrec]; simp)
      rw [hrec] at hr
      exact ⟨none, _, hr, hdone _ _ (hJ N _ _ _ h1 ((Keeps.putObj _ _ _).mono fun b hb _ h => h.2 hb)) (hkE _) (fun b hb => hb.2)⟩
    · have hr := run_endLoop (P := P) h5 (by rw [hrec]; simp)
      rw [hrec] at hr
      exact ⟨some c, _, hr, hstop c _ _ (hJx c _ _ _ h1 ((Keeps.putObj _ _ _).mono fun b hb _ h => h.2 hb)) (hkE _) (fun b hb => hb.2)⟩
/-- A function's contract where its body holds a range over a function. -/
theorem calls_marks {P : Program} {f : FuncId} {fn : Func} {c : Code} {args : Array Value} {w : World} {R : Ending → World → Prop} (hf : P.funcs[f]? = some fn) (hb : fn.body = some c)
    (h : c.wp P (bodyPostM Fence.wide 3 P fn R) { tmps := args ++ Array.replicate (fn.ntmps - args.size) undef, defers := [] } w) : Calls P f args w R :=
  callsIn_wide.1 (callsIn_of_wp_marks (F := Fence.wide) (n := 3) hf hb trivial (wpIn_wide.2 h) rfl)
/-- It returns, one mark laid. -/
theorem ret_mark {P : Program} {fn : Func} {R : Ending → World → Prop} {tmps : Array Value} {D : Nat} {W : World} {v : Value} {n : Nat} (hD : W.heap[D]? = some (.deferred (some [])))
    (hr : (results fn tmps).run P (W.putObj D (.deferred none)) = .ok v (W.putObj D (.deferred none))) (hR : R (.returned v) (W.putObj D (.deferred none))) :
    bodyPostM Fence.wide n P fn R .ret { tmps := tmps, defers := [{ target := .collected D, args := #[] }] } W := by
  refine ⟨by simp, .inl ⟨_, _, rfl, run_takeDeferred hD, ?_⟩⟩
  exact ⟨v, hr, hR⟩
theorem ret_plain {P : Program} {fn : Func} {R : Ending → World → Prop} {tmps : Array Value} {W : World} {v : Value} {n : Nat} (hr : (results fn tmps).run P W = .ok v W) (hR : R (.returned v) W) :
    bodyPostM Fence.wide n P fn R .ret { tmps := tmps, defers := [] } W := ⟨v, hr, hR⟩
end Go.Proofs.Ytnphhibfiklfjaa
