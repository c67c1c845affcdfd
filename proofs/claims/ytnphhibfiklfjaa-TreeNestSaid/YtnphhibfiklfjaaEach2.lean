/-
  tree.Each: what it hands back goes over the nodes.
-/
import Derived.Test.YtnphhibfiklfjaaEach
set_option linter.unusedVariables false
set_option linter.unusedSimpArgs false
namespace Go.Proofs.Ytnphhibfiklfjaa
open Go.RowKit

/-- The nodes that Each goes over. -/
def eachL (x : Nd) : List (List Int × Nd) := if x.small then pre [] x else []

set_option maxRecDepth 100000 in
set_option maxHeartbeats 800000 in
theorem each2_it (k : ByteArray) (n : Int) (t : ByteArray) (c : Fo) (b o : Nat) (cp : Option Addr) (cl cc : Nat) (It : Nat → Prop) (w : World) (hc : c.nodes < 2000) (hn : NodeAt w It b o k n t c cp cl cc) (hb : It b) (hIt : ∀ x, It x → x < w.heap.size) :
    IterOK Try.prog 38 #[.pointer (some ⟨b, o, none⟩)] (pre [] ⟨k, n, t, c⟩).length (EachG (pre [] ⟨k, n, t, c⟩)) It w := by
  intro m l J Jx B0 W hJ hJx hk hB0 h0 hY
  refine callsIn_wide.2 ?_
  show Calls Try.prog 38 #[.func (.yield l) #[] #[], .pointer (some ⟨b, o, none⟩)] W _
  have hs := hk.size
  have hnW := hn.keeps hk (fun x hx h => h hx) (hIt b hb) (fun h => h hb)
  obtain ⟨W1, hW1⟩ : ∃ W1, W1 = W.alloc (.cells #[.func (.yield l) #[] #[]] 76) := ⟨_, rfl⟩
  obtain ⟨W3, hW3⟩ : ∃ W3, W3 = W1.alloc (.cells #[.func (.func 39) #[] #[.pointer (some ⟨W.heap.size, 0, none⟩), .pointer (some ⟨W.heap.size + 1, 0, none⟩)]] 78) := ⟨_, rfl⟩
  have hs1 : W1.heap.size = W.heap.size + 1 := by rw [hW1]; simp
  have hs3 : W3.heap.size = W.heap.size + 2 := by rw [hW3]; simp [hs1]
  have hK1 : Keeps (fun _ => False) W W1 := by rw [hW1]; exact (Keeps.refl _ W).alloc _
  have hK2 : Keeps (fun _ => False) W1 W3 := by rw [hW3]; exact (Keeps.refl _ W1).alloc _
  have hK : Keeps (fun _ => False) W W3 := hK1.trans hK2
  have hyb1 : W1.heap[W.heap.size]? = some (.cells #[.func (.yield l) #[] #[]] 76 (0, 0)) := by rw [hW1]; exact heap_alloc_new _ _
  have hsb3 : W3.heap[W.heap.size + 1]? = some (.cells #[.func (.func 39) #[] #[.pointer (some ⟨W.heap.size, 0, none⟩), .pointer (some ⟨W.heap.size + 1, 0, none⟩)]] 78 (0, 0)) := by rw [hW3, ← hs1]; exact heap_alloc_new _ _
  have hyb3 := (hK2.block W.heap.size (by omega) (fun h => h)).trans hyb1
  have sc : W3.cell? ⟨W.heap.size + 1, 0, none⟩ = some (.func (.func 39) #[] #[.pointer (some ⟨W.heap.size, 0, none⟩), .pointer (some ⟨W.heap.size + 1, 0, none⟩)]) := by simp [World.cell?, hsb3]
  have yc : W3.cell? ⟨W.heap.size, 0, none⟩ = some (.func (.yield l) #[] #[]) := by simp [World.cell?, hyb3]
  have hItW : ∀ x, It x → x < W.heap.size := fun x hx => by have := hIt x hx; omega
  have hdown := down_it (L := pre [] ⟨k, n, t, c⟩) (lp := l) (H0 := W.heap.size) (J := J) (Jx := Jx) (It := It) (w0 := w) hJ hJx hY W.heap.size (W.heap.size + 1) (by omega) (c.nodes + 1) (by omega) k n t c b o cp cl cc [] (.slice none 0 0)
    (fun x => It x ∨ x = W.heap.size ∨ x = W.heap.size + 1) B0 0 [] W3 (by omega) (by simp; omega) (by simp) (by omega) ((hnW.keeps hK (fun x _ h => h) (hItW b hb) (fun h => h)).mono (fun _ h => .inl h)) (.inl hb) (fun x hx => hx.elim (fun h => by have := hItW x h; omega) (fun h => by omega)) (.inr (.inl rfl)) (.inr (.inr rfl)) (fun x hx => .inl hx) (hk.trans' hK (fun _ h _ => h.elim)) yc sc
    ⟨World.ownsRow_nil _ _ _ _, fun _ => rfl⟩ (fun g hg => by simp [Value.ownBlock] at hg) (fun x hx => ⟨by have := (hB0 x hx).1; omega, fun h => h.elim (hB0 x hx).2 (fun h => by have := (hB0 x hx).1; omega), by simp [Value.ownBlock]⟩) (hJ _ _ _ _ h0 (hK.mono fun _ h _ => h.elim))
  have HW1 := Lib.hid hW1
  have HW3 := Lib.hid hW3
  have HR := Lib.hid ((pre_len [] ⟨k, n, t, c⟩).trans (show c.nodes + 1 = 0 + c.nodes + 1 by omega))
  clear hW1 hW3 hnW hyb1 hyb3 hsb3 hY hJ hJx hn sc yc
  go_enter Try.func38, Try.ntmps38
  go_wp2_with fail
  rw [← HW1.out, ← HW3.out]
  refine hdown.mono ?_
  clear hdown
  rintro e W4 ⟨r, B', rfl, h1, h2, h3, _, _⟩
  have H1 := Lib.hid h1
  have H2 := Lib.hid h2
  clear h1 h2
  go_wp2_with fail
  go_end0
  refine ⟨⟨_, rfl⟩, ⟨B', ?_⟩, ?_, ?_⟩
  · cases r with
    | true => exact .inl (by rw [HR.out]; exact H1.out rfl)
    | false => exact .inr (H2.out rfl)
  · exact hk.trans ((hK.mono fun _ h _ => h.elim).trans' h3 (fun x hx hl hI => hx (.inl hI)))
  · have := h3.size; omega
set_option maxRecDepth 100000 in
theorem each1_it (G : Nat → Array Value → (Nat → Prop) → World → Prop) (It : Nat → Prop) (w : World) : IterOK Try.prog 36 #[] 0 G It w := by
  intro m l J Jx B0 W hJ hJx hk hB0 h0 hY
  refine callsIn_wide.2 ?_
  show Calls Try.prog 36 #[.func (.yield l) #[] #[]] W _
  go_enter Try.func36, Try.ntmps36
  go_wp2_with fail
  go_end0
  exact ⟨⟨_, rfl⟩, ⟨B0, .inl h0⟩, hk, Nat.le_refl _⟩

/-- What Each hands back. -/
def EachR2 (x : Nd) (w : World) (e : Ending) (w' : World) : Prop :=
  ∃ gf lb It, e = .returned (.func (.func gf) #[] lb) ∧ (∀ args W, (callFunc gf args).run Try.prog W = .ok (.enter gf args) W) ∧ (∀ b, It b → w.heap.size ≤ b ∧ b < w'.heap.size) ∧ Keeps (fun _ => False) w w' ∧ IterOK Try.prog gf lb (eachL x).length (EachG (eachL x)) It w'

set_option maxHeartbeats 1600000 in
theorem Each_any (x : Nd) (cp : Option Addr) (cl cc : Nat) (A : Nat → Prop) (w : World) (h : Tv w A x.k x.t x.c cp cl cc) :
   Calls Try.prog 10 #[tv x.k x.n x.t cp cl cc] w (EachR2 x w) := by
  obtain ⟨w1, hw1⟩ : ∃ w1, w1 = w.alloc (.cells (four x.k x.n x.t cp cl cc) T) := ⟨_, rfl⟩
  have hK : Keeps (fun _ => False) w w1 := by rw [hw1]; exact (Keeps.refl _ w).alloc _
  have hs1 : w1.heap.size = w.heap.size + 1 := by rw [hw1]; simp
  have hbox : w1.heap[w.heap.size]? = some (.cells (four x.k x.n x.t cp cl cc) T (0, 0)) := by rw [hw1]; exact heap_alloc_new _ _
  have hn : NodeAt w1 A w.heap.size 0 x.k x.n x.t x.c cp cl cc := by rw [hw1]; exact h.boxed _
  have hn := hn.top
  have hg := great_any x.k x.n x.t x.c w.heap.size 0 cp cl cc w1 (by omega) hn
  rw [big_small] at hg
  have HW1 := Lib.hid hw1
  clear hw1
  by_cases hsm : x.small
  · have hcn : x.c.nodes < 2000 := by have := hsm.1; simp only [Nd.nodes] at this; omega
    have htw := fun W (hk : Keeps (fun _ => False) w1 W) => twin_any (x.c.nodes + 1) (by omega) x.k x.n x.t x.c _ w.heap.size 0 cp cl cc W (by omega) (by have := hk.size; omega) (hn.keeps hk (fun _ _ h => h) (by omega) (fun h => h))
    simp only [hsm, decide_true, Bool.not_true] at hg
    have hcf : eachL x = pre [] ⟨x.k, x.n, x.t, x.c⟩ := by simp [eachL, hsm]
    have HC := Lib.hid hcf
    clear hcf hsm hn
    go_enter Try.func10, Try.ntmps10
    go_wp2_with fail
    rw [← HW1.out]
    refine hg.mono ?_
    clear hg
    rintro e W ⟨rfl, hk⟩
    go_wp2_with fail
    refine (htw W hk).mono ?_
    clear htw
    rintro e W2 ⟨cp2, cl2, cc2, bs, rfl, ho, hnw, hk2⟩
    have hk' := hk.trans hk2
    have hbox2 := (hk'.block _ (heap_lt hbox) (fun h => h)).trans hbox
    obtain ⟨r0, r1, r2, r3, f0, f1, f2, f3⟩ := box4 hbox2
    have hsW := hk'.size
    obtain ⟨W4, hW4⟩ : ∃ W4, W4 = (((W2.setCell ⟨w.heap.size, 0, none⟩ (.string x.k)).setCell ⟨w.heap.size, 1, none⟩ (.int .i64 x.n)).setCell ⟨w.heap.size, 2, none⟩ (.string x.t)).setCell ⟨w.heap.size, 3, none⟩ (.slice cp2 cl2 cc2) := ⟨_, rfl⟩
    have hk4 : Keeps (fun b => b = w.heap.size) W2 W4 := by rw [hW4]; exact Keeps.four _ _ _ _ _ _
    have hbox4 : W4.heap[w.heap.size]? = some (.cells (four x.k x.n x.t cp2 cl2 cc2) T (0, 0)) := by
      rw [hW4, heap_set (heap_set (heap_set (heap_set hbox2 _ _) _ _) _ _) _ _]
      rfl
    have HW4 := Lib.hid hW4
    clear hW4
    go_wp2_with fail
    rw [← HW4.out]
    go_ret
    obtain ⟨q0, q1, q2, q3, _, _, _, _⟩ := box4 hbox4
    have ho4 := ho.keeps hk4 (fun b hb => ⟨hnw.hi b hb, fun e => by have := hnw.lo b hb; have := hk.size; omega⟩)
    have hkids := ho4.kids (A := fun b => b = w.heap.size ∨ b ∈ bs) (fun b hb => .inr hb)
    have hn4 : NodeAt W4 (fun b => b = w.heap.size ∨ b ∈ bs) w.heap.size 0 x.k x.n x.t x.c cp2 cl2 cc2 := ⟨h.size, hkids.2.1, hkids.2.2.1, q0, q1, q2, q3, hkids.1⟩
    have hs4 := hk4.size
    have hIt : ∀ b, (b = w.heap.size ∨ b ∈ bs) → w.heap.size ≤ b ∧ b < W4.heap.size := fun b hb => by
      rcases hb with rfl | hb
      · omega
      · have h1 := hnw.lo b hb; have h2 := hnw.hi b hb; have := hk.size; omega
    refine ⟨_, _, _, rfl, fun args W => by kernel_rfl, hIt, (hK.trans hk').trans' hk4 (fun b hb hl => by omega), ?_⟩
    rw [HC.out]
    exact each2_it x.k x.n x.t x.c w.heap.size 0 cp2 cl2 cc2 _ W4 hcn hn4 (.inl rfl) (fun b hb => (hIt b hb).2)
  · simp only [hsm, decide_false, Bool.not_false] at hg
    have hcf : eachL x = [] := by simp [eachL, hsm]
    have HC := Lib.hid hcf
    clear hcf hsm hn
    go_enter Try.func10, Try.ntmps10
    go_wp2_with fail
    rw [← HW1.out]
    refine hg.mono ?_
    clear hg
    rintro e W ⟨rfl, hk⟩
    go_wp2_with fail
    go_ret
    refine ⟨_, _, fun _ => False, rfl, fun args W => by kernel_rfl, fun b hb => hb.elim, hK.trans hk, ?_⟩
    rw [HC.out]
    exact each1_it _ _ _
end Go.Proofs.Ytnphhibfiklfjaa
