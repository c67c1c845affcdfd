/-
  espalierlaw4.TreeNest: what its rounds keep of the book of paths.
-/
import Derived.Test.YtnphhibfiklfjaaTake
import Derived.Test.YtnphhibfiklfjaaAhead
import Derived.Test.YtnphhibfiklfjaaKinds2
set_option linter.unusedVariables false
set_option linter.unusedSimpArgs false
namespace Go.Proofs.Ytnphhibfiklfjaa
open Go.RowKit

theorem PathsAt.same {D pb : Nat} {W W1 : World} {L : List PRow} {sz : Int} {lv nv : Value} (h : PathsAt D W pb L sz lv nv) (hb : ∀ b, (b = pb ∨ lv.ownBlock = some b ∨ nv.ownBlock = some b ∨ ∃ r ∈ L, r.g = b) → W1.heap[b]? = W.heap[b]?) : PathsAt D W1 pb L sz lv nv :=
  ⟨(hb pb (.inl rfl)).trans h.box, ownsRow_same h.row (fun b hm => hb b (.inr (.inl (by simpa using hm)))), ownsRow_same h.lens (fun b hm => hb b (.inr (.inr (.inl (by simpa using hm))))), fun i r hr => (h.rows i r hr).same (hb _ (.inr (.inr (.inr ⟨r, List.mem_of_getElem? hr, rfl⟩)))), h.apart, h.lo, h.ne⟩
theorem PathsAt.lower {D D' pb : Nat} {W : World} {L : List PRow} {sz : Int} {lv nv : Value} (h : PathsAt D W pb L sz lv nv) (hD : D' ≤ D) : PathsAt D' W pb L sz lv nv :=
  ⟨h.box, ownsRow_base h.row hD, ownsRow_base h.lens hD, h.rows, h.apart, fun r hr => Nat.le_trans hD (h.lo r hr), h.ne⟩
/-- The book, after at most n takes; what it holds lies in S. -/
structure NB (D pb n : Nat) (W : World) (L : List PRow) (sz : Int) (lv nv : Value) (S : Nat → Prop) : Prop where
  pa : PathsAt D W pb L sz lv nv
  cnt : L.length ≤ n
  sz0 : 0 ≤ sz
  sz1 : sz ≤ (n : Int) * 80000
  blv : ∀ b, lv.ownBlock = some b → S b
  bnv : ∀ b, nv.ownBlock = some b → S b
  brow : ∀ r ∈ L, S r.g ∧ r.n ≤ 1000
section
variable {D pb n : Nat} {W W1 : World} {L : List PRow} {sz : Int} {lv nv : Value} {S : Nat → Prop}
theorem NB.mono {S' : Nat → Prop} (h : NB D pb n W L sz lv nv S) (hS : ∀ b, S b → S' b) : NB D pb n W L sz lv nv S' :=
  ⟨h.pa, h.cnt, h.sz0, h.sz1, fun b hb => hS b (h.blv b hb), fun b hb => hS b (h.bnv b hb), fun r hr => ⟨hS _ (h.brow r hr).1, (h.brow r hr).2⟩⟩
theorem NB.more {n' : Nat} (h : NB D pb n W L sz lv nv S) (hn : n ≤ n') : NB D pb n' W L sz lv nv S :=
  ⟨h.pa, Nat.le_trans h.cnt hn, h.sz0, by have := h.sz1; omega, h.blv, h.bnv, h.brow⟩
theorem NB.lt (h : NB D pb n W L sz lv nv S) {b : Nat} (hb : b = pb ∨ lv.ownBlock = some b ∨ nv.ownBlock = some b ∨ ∃ r ∈ L, r.g = b) : b < W.heap.size := by
  rcases hb with rfl | hb | hb | ⟨r, hr, rfl⟩
  · exact heap_lt h.pa.box
  · exact (h.pa.row.lt b hb).2
  · exact (h.pa.lens.lt b hb).2
  · obtain ⟨i, hi⟩ := List.getElem?_of_mem hr
    exact (h.pa.rows i r hi).lt
theorem NB.keep {X : Nat → Prop} (h : NB D pb n W L sz lv nv S) (hk : Keeps X W W1) (hX : ∀ b, X b → b ≠ pb ∧ ¬ S b) : NB D pb n W1 L sz lv nv S :=
  ⟨h.pa.same fun b hb => hk.block b (h.lt hb) (fun hx => by
    have := hX b hx
    rcases hb with rfl | hb | hb | ⟨r, hr, rfl⟩
    · exact this.1 rfl
    · exact this.2 (h.blv b hb)
    · exact this.2 (h.bnv b hb)
    · exact this.2 (h.brow r hr).1), h.cnt, h.sz0, h.sz1, h.blv, h.bnv, h.brow⟩
/-- An empty book. -/
theorem NB.start (hb : W.heap[pb]? = some (.cells #[.slice none 0 0, .slice none 0 0, .int .i64 0, .slice none 0 0] 44 (0, 0))) (D : Nat) (S : Nat → Prop) : NB D pb 0 W [] 0 (.slice none 0 0) (.slice none 0 0) S :=
  ⟨⟨hb, World.ownsRow_nil _ _ _ _, World.ownsRow_nil _ _ _ _, fun i r h => by simp at h, by simp, by simp, by simp⟩, by simp, by omega, by omega, fun b h => by simp [Value.ownBlock] at h, fun b h => by simp [Value.ownBlock] at h, by simp⟩
/-- What a take leaves. -/
def TakeN (D pb n : Nat) (S : Nat → Prop) (pv : Value) (W W' : World) : Prop :=
  ∃ L' sz' lv' nv', NB D pb (n + 1) W' L' sz' lv' nv' (fun b => S b ∨ pv.ownBlock = some b ∨ (W.heap.size ≤ b ∧ b < W'.heap.size)) ∧ Keeps (fun b => b = pb ∨ (D ≤ b ∧ (S b ∨ pv.ownBlock = some b))) W W'
theorem Take_nb (h : NB D pb n W L sz lv nv S) (hpb : pb < D) (hD : D ≤ W.heap.size) (hn : n ≤ 100000) {vb : Nat} {p : List Int} {pp : Option Addr} {pl pc : Nat} (hv : W.heap[vb]? = some (.cells #[.slice pp pl pc] 32 (0, 0))) (hvb : vb ≠ pb ∧ ¬ S vb) (hr : Row W (.slice pp pl pc) p) (hpl : p.length ≤ 1000)
    (hnew : ∀ g, (Value.slice pp pl pc).ownBlock = some g → D ≤ g ∧ ¬ S g ∧ g ≠ vb) :
    Calls Try.prog 18 #[.pointer (some ⟨pb, 0, none⟩), .slice (some ⟨vb, 0, none⟩) 1 1] W fun e w' => (∃ v, e = .returned v) ∧ TakeN D pb n S (.slice pp pl pc) W w' := by
  have hpl' : pl = p.length := by
    rcases hr.form with ⟨he, rfl⟩ | ⟨g, cap, cur, he, _⟩
    · simp only [Value.slice.injEq] at he; exact he.2.1
    · simp only [Value.slice.injEq] at he; exact he.2.1
  have hb : ∀ b, (∃ o s, pp = some (⟨b, o, s⟩ : Addr)) → (Value.slice pp pl pc).ownBlock = some b := fun b ⟨o, s, e⟩ => by rw [e]; rfl
  refine (Take_one D pb L sz lv nv vb p pp pl pc W h.pa hv hpb hvb.1 h.sz0 (by have := h.sz1; omega) (by omega) hr (fun e => ?_) (by have := h.cnt; omega) hD (fun e => hvb.2 (h.blv _ e)) (fun e => hvb.2 (h.bnv _ e)) (fun g hg => ⟨(hnew g hg).1, fun hm => ?_, fun e => (hnew g hg).2.1 (h.bnv _ e)⟩)).mono ?_
  · cases pp with
    | none => simp at e
    | some a =>
      have e : a.block = vb := by simpa using e
      exact (hnew a.block rfl).2.2 e
  · obtain ⟨r, hr', e⟩ := List.mem_map.1 hm
    exact (hnew g hg).2.1 (e ▸ (h.brow r hr').1)
  · rintro e W' ⟨he, L', lv', nv', h1, h2, h3, h4, h5⟩
    have hs := h3.size
    refine ⟨he, L', _, lv', nv', ⟨h1, ?_, ?_, ?_, fun b hb' => ?_, fun b hb' => ?_, fun r hr' => ?_⟩, h3.mono fun b hb' _ => ?_⟩
    · rcases h2 with rfl | ⟨r, rfl, _⟩
      · have := h.cnt; omega
      · have := h.cnt; rw [List.length_append]; simp; omega
    · have h6 : 0 ≤ roomF pl pc := by
        rcases hr.form with ⟨he, _⟩ | ⟨g, cap, cur, he, _⟩
        · unfold roomF; split <;> omega
        · unfold roomF; split <;> omega
      have := h.sz0; omega
    · have h6 : roomF pl pc ≤ pl + 70000 := by unfold roomF; split <;> omega
      have := h.sz1; omega
    · have hlt := (h1.row.lt b hb').2
      exact (h4 b hb').elim (fun h => .inl (by have := ‹NB D pb n W L sz lv nv S›; exact this.blv b h)) (fun h => .inr (.inr ⟨h, hlt⟩))
    · have hlt := (h1.lens.lt b hb').2
      exact (h5 b hb').elim (fun h => .inl (by have := ‹NB D pb n W L sz lv nv S›; exact this.bnv b h)) (fun h => .inr (.inr ⟨h, hlt⟩))
    · rcases h2 with rfl | ⟨r', rfl, h7, h6⟩
      · exact ⟨.inl (h.brow r hr').1, (h.brow r hr').2⟩
      · rcases List.mem_append.1 hr' with hr' | hr'
        · exact ⟨.inl (h.brow r hr').1, (h.brow r hr').2⟩
        · simp only [List.mem_singleton] at hr'
          subst hr'
          exact ⟨.inr (.inl (hb _ h6)), by omega⟩
    · rcases hb' with hb' | hb' | hb' | hb'
      · exact .inl hb'
      · exact .inr ⟨(h.pa.row.lt b hb').1, .inl (h.blv b hb')⟩
      · exact .inr ⟨(h.pa.lens.lt b hb').1, .inl (h.bnv b hb')⟩
      · exact .inr ⟨(hnew b (hb b hb')).1, .inr (hb b hb')⟩
theorem NB.mono' {S' : Nat → Prop} (h : NB D pb n W L sz lv nv S) (hS : ∀ b, S b → b < W.heap.size → D ≤ b → S' b) : NB D pb n W L sz lv nv S' :=
  ⟨h.pa, h.cnt, h.sz0, h.sz1, fun b hb => hS b (h.blv b hb) (h.pa.row.lt b hb).2 (h.pa.row.lt b hb).1, fun b hb => hS b (h.bnv b hb) (h.pa.lens.lt b hb).2 (h.pa.lens.lt b hb).1, fun r hr => ⟨hS _ (h.brow r hr).1 (h.lt (.inr (.inr (.inr ⟨r, hr, rfl⟩)))) (h.pa.lo r hr), (h.brow r hr).2⟩⟩
end
/-- The rounds' account: what was there is there, but for the iterator's, the book's and the counter. -/
structure OJ (It X : Nat → Prop) (W0 : World) (ab : Nat) (v : Int) (B : Nat → Prop) (W : World) : Prop where
  own : ∀ b, b < W0.heap.size → ¬ It b → B b
  keeps : Keeps (fun b => It b ∨ X b ∨ b = ab) W0 W
  at_ : W.heap[ab]? = some (.cells #[.int .i64 v] 3 (0, 0))
theorem OJ.stab {It X : Nat → Prop} {W0 : World} {ab : Nat} {v : Int} {B : Nat → Prop} {W W' : World} (hab : ab < W0.heap.size) (hI : ¬ It ab) (h : OJ It X W0 ab v B W) (hk : Keeps (fun b => ¬ B b) W W') : OJ It X W0 ab v B W' :=
  ⟨h.own, h.keeps.trans' hk (fun b hb hl => by
    by_cases hI : It b
    · exact .inl hI
    · exact absurd (h.own b hl hI) hb), (hk.block _ (heap_lt h.at_) (fun h' => h' (h.own ab hab hI))).trans h.at_⟩
/-- Both: the book and the account. -/
def NJ (It X S : Nat → Prop) (W0 : World) (D pb ab n : Nat) (v : Int) (B : Nat → Prop) (W : World) : Prop :=
  (∃ L sz lv nv, NB D pb n W L sz lv nv (fun b => B b ∧ S b)) ∧ OJ It X W0 ab v B W
theorem NJ.stab {It X S : Nat → Prop} {W0 : World} {D pb ab n : Nat} {v : Int} {B : Nat → Prop} {W W' : World} (hab : ab < W0.heap.size) (hI : ¬ It ab) (hpb : pb < W0.heap.size) (hIp : ¬ It pb) (h : NJ It X S W0 D pb ab n v B W) (hk : Keeps (fun b => ¬ B b) W W') : NJ It X S W0 D pb ab n v B W' := by
  obtain ⟨⟨L, sz, lv, nv, h1⟩, h2⟩ := h
  exact ⟨⟨L, sz, lv, nv, h1.keep hk (fun b hb => ⟨fun e => hb (e ▸ h2.own pb hpb hIp), fun hs => hb hs.1⟩)⟩, h2.stab hab hI hk⟩
/-- A round's end: a path is taken, the counter set. -/
theorem NJ.took {It X S S0 : Nat → Prop} {W0 : World} {D pb ab n l : Nat} {v v' : Int} {B Y : Nat → Prop} {pv : Value} {W W₂ U U' : World} (hO : OJ It X W0 ab v B W) (hl : Keeps (fun b => b = l) W W₂) (hlW : W0.heap.size ≤ l) (hXU : Keeps (fun b => X b ∨ W0.heap.size ≤ b) W₂ U) (hBU : Keeps (fun b => B b ∨ Y b) W₂ U)
    (hcell : U.heap[ab]? = some (.cells #[.int .i64 v] 3 (0, 0))) (hT : TakeN D pb n S0 pv U U') (hS0 : ∀ b, S0 b → b < U.heap.size → (B b ∨ W₂.heap.size ≤ b) ∧ S b) (hpv : ∀ b, pv.ownBlock = some b → Y b) (hY : ∀ b, Y b → W0.heap.size ≤ b ∧ S b) (hnew : ∀ b, W.heap.size ≤ b → S b)
    (hBl : ∀ b, B b → b < W.heap.size) (hab : ab < W0.heap.size) (hIab : ¬ It ab) (hSab : ¬ S ab) (habp : ab ≠ pb) (hpb : pb < W0.heap.size) (hIpb : ¬ It pb) (hX : X pb ∧ ∀ b, b < W0.heap.size → D ≤ b → S b → X b) :
    ∃ B', (∀ b, B' b → (B b ∨ Y b ∨ W.heap.size ≤ b) ∧ b < (U'.setCell ⟨ab, 0, none⟩ (.int .i64 v')).heap.size) ∧ Keeps (fun b => B b ∨ Y b) W₂ (U'.setCell ⟨ab, 0, none⟩ (.int .i64 v')) ∧ NJ It X S W0 D pb ab (n + 1) v' B' (U'.setCell ⟨ab, 0, none⟩ (.int .i64 v')) := by
  obtain ⟨L, sz, lv, nv, hN, hkT⟩ := hT
  obtain ⟨E, hE⟩ : ∃ E, E = U'.setCell ⟨ab, 0, none⟩ (.int .i64 v') := ⟨_, rfl⟩
  have hkE : Keeps (fun b => b = ab) U' E := by rw [hE]; exact (Keeps.refl (fun b => b = ab) U').setCell (p := ⟨ab, 0, none⟩) (fun _ => rfl) _
  have hBab := hO.own ab hab hIab
  have hBpb := hO.own pb hpb hIpb
  have s0 := hO.keeps.size
  have s1 := hl.size
  have s2 := hXU.size
  have s3 := hkT.size
  have s4 := hkE.size
  have hcell' : U'.heap[ab]? = some (.cells #[.int .i64 v] 3 (0, 0)) := (hkT.block ab (heap_lt hcell) (fun h => by
    rcases h with h | ⟨_, h | h⟩
    · exact habp h
    · exact hSab (hS0 ab h (heap_lt hcell)).2
    · exact hSab (hY ab (hpv ab h)).2)).trans hcell
  rw [← hE]
  refine ⟨fun b => (B b ∨ Y b ∨ W.heap.size ≤ b) ∧ b < E.heap.size, fun b h => h, ?_, ⟨L, sz, lv, nv, ?_⟩, fun b h1 h2 => ⟨.inl (hO.own b h1 h2), by omega⟩, ?_, ?_⟩
  · refine (hBU.trans' hkT (fun b hb hlt => ?_)).trans' hkE (fun b hb _ => .inl (hb ▸ hBab))
    rcases hb with hb | ⟨_, hb | hb⟩
    · exact .inl (hb ▸ hBpb)
    · rcases (hS0 b hb (by have := hBU.size; omega)).1 with h | h
      · exact .inl h
      · omega
    · exact .inr (hpv b hb)
  · refine (hN.mono' (fun b hb hlt _ => (?_ : (((B b ∨ Y b ∨ W.heap.size ≤ b) ∧ b < E.heap.size) ∧ S b)))).keep hkE (fun b hb => ⟨by omega, fun h => hSab (hb ▸ h.2)⟩)
    rcases hb with hb | hb | hb
    · by_cases hbu : b < U.heap.size
      · have := hS0 b hb hbu
        exact ⟨⟨this.1.imp_right (fun h => .inr (by omega)), by omega⟩, this.2⟩
      · exact ⟨⟨.inr (.inr (by omega)), by omega⟩, hnew b (by omega)⟩
    · have := hY b (hpv b hb)
      exact ⟨⟨.inr (.inl (hpv b hb)), by omega⟩, this.2⟩
    · exact ⟨⟨.inr (.inr (by omega)), by omega⟩, hnew b (by omega)⟩
  · refine (((hO.keeps.trans' hl (fun b hb hlt => by omega)).trans' hXU (fun b hb hlt => ?_)).trans' hkT (fun b hb hlt => ?_)).trans' hkE (fun b hb _ => .inr (.inr hb))
    · rcases hb with hb | hb
      · exact .inr (.inl hb)
      · omega
    · rcases hb with hb | ⟨hD, hb | hb⟩
      · exact .inr (.inl (hb ▸ hX.1))
      · exact .inr (.inl (hX.2 b hlt hD (hS0 b hb (by omega)).2))
      · have := (hY b (hpv b hb)).1; omega
  · rw [hE, heap_set hcell']; rfl
theorem Fo.at_nodes {f : Fo} {i : Nat} {z : Nd} (h : f.at? i = some z) : z.c.nodes + 1 ≤ f.nodes := by
  induction f generalizing i with
  | nil => simp [Fo.at?] at h
  | cons k n t c r _ ih =>
    cases i with
    | zero => simp only [Fo.at?, Option.some.injEq] at h; subst h; simp only [Fo.nodes]; omega
    | succ i => have := ih (i := i) h; simp only [Fo.nodes]; omega
theorem sub_len : ∀ (p : List Int) (x : Nd) {y : Nd}, sub p x = some y → p.length ≤ x.c.nodes
  | [], _, _, _ => by simp
  | i :: r, x, y, h => by
    simp only [sub] at h
    cases hk : x.c.kid i with
    | none => rw [hk] at h; simp at h
    | some z =>
      rw [hk] at h
      have h1 := sub_len r z h
      unfold Fo.kid at hk
      split at hk
      · simp at hk
      · have := Fo.at_nodes hk
        simp only [List.length_cons]; omega
end Go.Proofs.Ytnphhibfiklfjaa
