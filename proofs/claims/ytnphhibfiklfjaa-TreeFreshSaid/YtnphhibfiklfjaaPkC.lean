/-
  Merged texts: XFind, XCopy, XMay, XEachP, XBase, XRws, XAt, XROwn, XEq, XEqPath, XLists.
-/
import Derived.Test.YtnphhibfiklfjaaTwin

import Derived.Test.YtnphhibfiklfjaaPkA

import Derived.Test.YtnphhibfiklfjaaPkB

import Derived.Deep.LoopGhost

import Derived.Deep.AppendLies

import Derived.Deep.Cut

import Derived.StillTailTactics

set_option linter.unusedVariables false

set_option linter.unusedSimpArgs false

/-!
  tree.find: its walk.
-/
namespace Go.Proofs.Ytnphhibfiklfjaa

open Go.RowKit

def FindR (w : World) (A : Nat → Prop) (path : List Int) (x : Nd) (b o : Nat) (e : Ending) (w' : World) : Prop :=
  w = w' ∧ ((sub path x = none ∧ e = .returned (.pointer none)) ∨ ∃ b' o' y cp cl cc, sub path x = some y ∧ e = .returned (.pointer (some ⟨b', o', none⟩)) ∧ Nav w path b o b' o' ∧ NodeAt w A b' o' y.k y.n y.t y.c cp cl cc ∧ (b' = b ∨ A b'))

set_option maxRecDepth 100000 in
set_option maxHeartbeats 800000 in
theorem find_any (path : List Int) (x : Nd) (A A' : Nat → Prop) (b o : Nat) (cp : Option Addr) (cl cc : Nat) (pp : Option Addr) (pl pc : Nat) (w : World) (hn : NodeAt w A b o x.k x.n x.t x.c cp cl cc) (hp : Ints w A' path pp pl) :
   Calls Try.prog 41 #[.pointer (some ⟨b, o, none⟩), .slice pp pl pc] w (FindR w A path x b o) := by
  have hple := hp.le
  go_enter Try.func41, Try.ntmps41
  go_wp2_with fail
  go_loopg [0, 9] pl (fun m v i W => w = W ∧ ∃ j : Nat, j + m = pl ∧ i = .int .i64 j ∧ ∃ b1 o1 y cp1 cl1 cc1, v = .pointer (some ⟨b1, o1, none⟩) ∧ sub (path.take j) x = some y ∧ Nav w (path.take j) b o b1 o1 ∧ NodeAt w A b1 o1 y.k y.n y.t y.c cp1 cl1 cc1 ∧ (b1 = b ∨ A b1))
  case atStart => exact ⟨rfl, 0, by omega, rfl, b, o, x, cp, cl, cc, rfl, rfl, ⟨rfl, rfl⟩, hn, .inl rfl⟩
  case round =>
    obtain ⟨rfl, j, hjm, rfl, b1, o1, y, cp1, cl1, cc1, rfl, hsub, hnav, hny, hbb⟩ := hrel
    have HJ := Lib.hid hjm
    have HS := Lib.hid hsub
    have HN := Lib.hid hnav
    have HBB := Lib.hid hbb
    clear hjm hsub hnav hbb
    have k3 := hny.c3
    have hlc := hny.lc
    have hcm := hny.cm
    by_cases hlt : j < pl
    · obtain ⟨i, r, hd, hd1, pb, po, rfl, _, hpb⟩ := hp.dropLt hlt
      have hpc := hp.at_ hd
      have htk : path.take (j + 1) = path.take j ++ [i] := by
        have : path[j]? = some i := by
          have := List.getElem?_drop (xs := path) (i := j) (j := 0)
          rw [hd] at this
          simpa using this.symm
        rw [List.take_add_one, this]
        rfl
      have HT := Lib.hid htk
      have HD := Lib.hid hd
      have hpost : y.c.kid i = none → FindR w A path x b o (.returned (.pointer none)) w := fun h => by
        refine ⟨rfl, .inl ⟨?_, rfl⟩⟩
        rw [← List.take_append_drop (j + 1) path, htk]
        exact sub_none (by rw [sub_snoc, HS.out]; exact h)
      clear hd hd1 htk
      by_cases hi0 : i < 0
      · have hk : y.c.kid i = none := by simp [Fo.kid, hi0]
        have hpost := hpost hk
        clear hk
        go_wp2_with fail
        go_ret
        exact hpost
      · have hi0' : 0 ≤ i := by omega
        by_cases hi1 : (cl1 : Int) ≤ i
        · have hk : y.c.kid i = none := by
            rw [Fo.kid, if_neg hi0]
            exact Fo.at?_none (by rw [hny.kids.len]; omega)
          have hpost := hpost hk
          clear hk
          go_wp2_with fail
          go_ret
          exact hpost
        · have hi1' : i < (cl1 : Int) := by omega
          obtain ⟨m, rfl⟩ := Int.eq_ofNat_of_zero_le hi0'
          have hm : m < cl1 := by omega
          obtain ⟨kb, ko, rfl, hkb, hkbs⟩ := hny.kids.hasAddr (by omega)
          obtain ⟨k1, n1, t1, s1, r1, hdr⟩ := Fo.drop_lt m y.c (by rw [hny.kids.len]; exact hm)
          obtain ⟨cp2, cl2, cc2, hn2⟩ := hny.kids.at_ m hdr hm
          have hk : y.c.kid m = some ⟨k1, n1, t1, s1⟩ := by
            rw [Fo.kid, if_neg (by omega)]
            exact Fo.at?_drop hdr
          have HK := Lib.hid hk
          clear hpost hdr hk
          go_wp2_with fail
          go_roundg (gk - 1)
          case measure => have := HJ.out; omega
          case rel =>
            refine ⟨rfl, j + 1, by have := HJ.out; omega, by go_num, kb, ko + m * 4, ⟨k1, n1, t1, s1⟩, cp2, cl2, cc2, rfl, ?_, ?_, hn2, .inr hkb⟩
            · rw [HT.out, sub_snoc, HS.out]
              exact HK.out
            · rw [HT.out]
              exact HN.out.snoc k3 (by omega) (by simpa using hm)
    · have hjp : path.take j = path := List.take_of_length_le (by rw [hp.len]; omega)
      have HP := Lib.hid hjp
      clear hjp
      go_wp2_with fail
      go_ret
      refine ⟨rfl, .inr ⟨b1, o1, y, cp1, cl1, cc1, ?_, rfl, ?_, hny, HBB.out⟩⟩
      · have := HS.out; rwa [HP.out] at this
      · have := HN.out; rwa [HP.out] at this
end Go.Proofs.Ytnphhibfiklfjaa

/-!
  tree.Copy, tree.At: their walks.
-/
namespace Go.Proofs.Ytnphhibfiklfjaa

open Go.RowKit

theorem big_small (x : Nd) : big x.k x.t x.c = !decide x.small := by
  unfold big
  by_cases h : x.small
  · rw [wlk1_small x h]; simp [h]
  · rw [wlk1_great x h]; simp [h]
theorem sizeR_eq (x : Nd) : sizeR x.k x.t x.c = if x.small then ((x.nodes : Int), (x.depth : Int), (x.bytes : Int)) else (1025, 65, 16385) := by
  unfold sizeR
  rw [big_small]
  by_cases h : x.small
  · simp only [h, decide_true, Bool.not_true, Bool.false_eq_true, if_false, if_true]
    rw [wlk1_small x h]
  · simp [h]
abbrev zeroNd : Nd := ⟨e0, 0, e0, .nil⟩
theorem sub_nodes : ∀ (p : List Int) (x y : Nd), sub p x = some y → y.c.nodes ≤ x.c.nodes
  | [], x, y, h => by simp [sub] at h; rw [h]; exact Nat.le_refl _
  | i :: r, x, y, h => by
    simp only [sub] at h
    cases hk : x.c.kid i with
    | none => rw [hk] at h; simp at h
    | some z =>
      rw [hk] at h
      have h1 := sub_nodes r z y h
      have h2 : z.c.nodes ≤ x.c.nodes := by
        unfold Fo.kid at hk
        split at hk
        · simp at hk
        · by_cases hl : i.toNat < x.c.len
          · obtain ⟨k, n, t, c, r', hd⟩ := Fo.drop_lt i.toNat x.c hl
            rw [Fo.at?_drop hd] at hk
            injection hk with hk
            have := Fo.nodes_drop i.toNat x.c
            rw [hd] at this
            simp only [Fo.nodes] at this
            rw [← hk]
            show c.nodes ≤ _
            omega
          · rw [Fo.at?_none (by omega)] at hk; simp at hk
      omega
/-- What Copy answers. -/
def copyF (x : Nd) : Nd × Int := if x.small then (x, 0) else (zeroNd, 2)
def found : Option Nd → Nd × Int
  | some y => (y, 0)
  | none => (zeroNd, 23)
/-- What At answers. -/
def atF (x : Nd) (path : List Int) : Nd × Int := if x.small then found (sub path x) else (zeroNd, 2)
/-- A tree of its own and a number. -/
def TreeRes (w : World) (r : Nd × Int) (e : Ending) (w' : World) : Prop :=
  ∃ cp cl cc bs, e = .returned (.tuple #[tv r.1.k r.1.n r.1.t cp cl cc, .int .i64 r.2]) ∧ Own w' r.1.c cp cl cc bs ∧ News w' w.heap.size bs ∧ szok r.1.k r.1.t ∧ Keeps (fun _ => False) w w'
theorem TreeRes.zero {w w' : World} {n : Int} (hk : Keeps (fun _ => False) w w') : TreeRes w (zeroNd, n) (.returned (.tuple #[tv e0 0 e0 none 0 0, .int .i64 n])) w' :=
  ⟨none, 0, 0, [], rfl, Own.nil _, News.nil _ _, ⟨by show (0 : Nat) ≤ _; omega, by show (0 : Nat) ≤ _; omega⟩, hk⟩

set_option maxHeartbeats 800000 in
theorem Copy_any (x : Nd) (cp : Option Addr) (cl cc : Nat) (A : Nat → Prop) (w : World) (h : Tv w A x.k x.t x.c cp cl cc) :
   Calls Try.prog 24 #[tv x.k x.n x.t cp cl cc] w (TreeRes w (copyF x)) := by
  obtain ⟨w1, hw1⟩ : ∃ w1, w1 = w.alloc (.cells (four x.k x.n x.t cp cl cc) T) := ⟨_, rfl⟩
  obtain ⟨w2, hw2⟩ : ∃ w2, w2 = w1.alloc (.cells (four e0 0 e0 none 0 0) T) := ⟨_, rfl⟩
  have hK1 : Keeps (fun _ => False) w w1 := by rw [hw1]; exact (Keeps.refl _ w).alloc _
  have hK2 : Keeps (fun _ => False) w1 w2 := by rw [hw2]; exact (Keeps.refl _ w1).alloc _
  have hs1 : w1.heap.size = w.heap.size + 1 := by rw [hw1]; simp
  have hs2 : w2.heap.size = w.heap.size + 1 + 1 := by rw [hw2]; simp [hs1]
  have hn1 : NodeAt w1 A w.heap.size 0 x.k x.n x.t x.c cp cl cc := by rw [hw1]; exact h.boxed _
  have hn := (hn1.keeps hK2 (fun _ _ h => h) (by omega) (fun h => h)).top
  have hres : w2.heap[w.heap.size + 1]? = some (.cells (four e0 0 e0 none 0 0) T (0, 0)) := by rw [hw2, ← hs1]; exact heap_alloc_new _ _
  have hg := great_any x.k x.n x.t x.c w.heap.size 0 cp cl cc w2 (by omega) hn
  rw [big_small] at hg
  have hK := hK1.trans hK2
  have HW := Lib.hid hw2
  have HW1 := Lib.hid hw1
  clear hw1 hw2 hn1
  by_cases hsm : x.small
  · have htw := fun W (hk : Keeps (fun _ => False) w2 W) => twin_any (x.c.nodes + 1) (by have := hsm.1; simp only [Nd.nodes] at this; omega) x.k x.n x.t x.c _ w.heap.size 0 cp cl cc W (by omega) (by have := hk.size; omega) (hn.keeps hk (fun _ _ h => h) (by omega) (fun h => h))
    simp only [hsm, decide_true, Bool.not_true] at hg
    have hcf : copyF x = (x, 0) := by simp [copyF, hsm]
    rw [hcf]
    clear hcf hsm hn
    go_enter Try.func24, Try.ntmps24
    go_wp2_with fail
    rw [← HW1.out, ← HW.out]
    refine hg.mono ?_
    clear hg
    rintro e W ⟨rfl, hk⟩
    go_wp2_with fail
    refine (htw W hk).mono ?_
    clear htw
    rintro e W2 ⟨cp2, cl2, cc2, bs, rfl, ho, hnw, hk2⟩
    have hk' := hk.trans hk2
    have hres2 : W2.heap[w.heap.size + 1]? = some (.cells (four e0 0 e0 none 0 0) T (0, 0)) := (hk'.block _ (heap_lt hres) (fun h => h)).trans hres
    obtain ⟨r0, r1, r2, r3, f0, f1, f2, f3⟩ := box4 hres2
    have hsW := hk.size
    go_wp2_with fail
    refine bodyPost_ret (v := .tuple #[tv x.k x.n x.t cp2 cl2 cc2, .int .i64 0]) (by simp [results, Try.results24, go_sem, r0, r1, r2, r3]) rfl ?_
    have h4 := Keeps.four W2 (w.heap.size + 1) (.string x.k) (.int .i64 x.n) (.string x.t) (.slice cp2 cl2 cc2)
    exact ⟨cp2, cl2, cc2, bs, rfl, ho.keeps h4 (fun b hb => ⟨hnw.hi b hb, fun e => by have := hnw.lo b hb; omega⟩), (hnw.keeps h4).mono (by omega), h.size, (hK.trans hk').trans' h4 (fun b hb hl => by omega)⟩
  · simp only [hsm, decide_false, Bool.not_false] at hg
    have hcf : copyF x = (zeroNd, 2) := by simp [copyF, hsm]
    rw [hcf]
    clear hcf hsm hn
    go_enter Try.func24, Try.ntmps24
    go_wp2_with fail
    rw [← HW1.out, ← HW.out]
    refine hg.mono ?_
    clear hg
    rintro e W2 ⟨rfl, hk'⟩
    have hres2 : W2.heap[w.heap.size + 1]? = some (.cells (four e0 0 e0 none 0 0) T (0, 0)) := (hk'.block _ (heap_lt hres) (fun h => h)).trans hres
    obtain ⟨r0, r1, r2, r3, f0, f1, f2, f3⟩ := box4 hres2
    go_wp2_with fail
    refine bodyPost_ret (v := .tuple #[tv e0 0 e0 none 0 0, .int .i64 2]) (by simp [results, Try.results24, go_sem, r0, r1, r2, r3]) rfl ?_
    have h4 := Keeps.four W2 (w.heap.size + 1) (.string e0) (.int .i64 0) (.string e0) (.slice none 0 0)
    exact TreeRes.zero ((hK.trans hk').trans' h4 (fun b hb hl => by omega))
end Go.Proofs.Ytnphhibfiklfjaa

/-!
  tree.May: its walk.
-/
namespace Go.Proofs.Ytnphhibfiklfjaa

open Go.RowKit

/-- All kinds are names of kinds. -/
def namedL (l : List ByteArray) : Bool := l.all fun k => kindB k.data.toList
theorem namedL_snoc (l : List ByteArray) (k : ByteArray) : namedL (l ++ [k]) = (namedL l && kindB k.data.toList) := by simp [namedL, List.all_append]
def NamedJ (M : Nat) (l : List ByteArray) (W : World) : Prop := W.heap[M]? = some (.cells #[.bool (namedL l)] 4 (0, 0))

set_option maxHeartbeats 400000 in
theorem may1_any (A : Nat → Prop) (M : Nat) (l : List ByteArray) (k : ByteArray) (n : Int) (t : ByteArray) (c : Fo) (b o : Nat) (cp : Option Addr) (cl cc : Nat) (w : World) (hb : b < w.heap.size) (hn : NodeAt w A b o k n t c cp cl cc) (hJ : NamedJ M l w) :
    Calls Try.prog 57 #[.pointer (some ⟨b, o, none⟩), .pointer (some ⟨M, 0, none⟩)] w fun e w' => ∃ v, e = .returned v ∧ NamedJ M (l ++ [k]) w' ∧ Keeps (fun b => b = M) w w' := by
  have c0 := hn.c0
  have hki := Kind_any k w hn.size.2
  obtain ⟨v, hv⟩ : ∃ v, kindB k.data.toList = v := ⟨_, rfl⟩
  obtain ⟨u, hu⟩ : ∃ v, namedL l = v := ⟨_, rfl⟩
  unfold KindR at hki
  rw [hv] at hki
  unfold NamedJ at hJ ⊢
  rw [hu] at hJ
  rw [namedL_snoc, hv, hu]
  clear hv hu
  have hM := heap_lt hJ
  cases u
  all_goals
    go_enter Try.func57, Try.ntmps57
    go_wp2_with fail
    refine hki.mono ?_
    rintro e w1 ⟨x, y, rfl, hk⟩
    have hJ1 := (hk.block _ hM (fun h => h)).trans hJ
    have m0 := (show w1.cell? ⟨M, 0, none⟩ = _ by simp [World.cell?, hJ1]; rfl)
    have m1 : w1.frozen? ⟨M, 0, none⟩ = false := by simp [World.frozen?, hJ1]
    go_wp2_with fail
    go_end0
    refine ⟨_, rfl, ?_, (hk.mono (S' := fun b => b = M) (fun _ h _ => h.elim)).setCell (p := ⟨M, 0, none⟩) (fun _ => rfl) _⟩
    rw [heap_set hJ1]
    rfl
theorem see_may (M : Nat) : See (fun b => b < M) (fun b => b = M) (NamedJ M) (M + 1) 57 #[.pointer (some ⟨M, 0, none⟩)] where
  enters := enters_of_func Try.func57 (by kernel_rfl) rfl
  apart := fun b h e => by omega
  treeLt := fun b h => by omega
  seeOut := fun b h => by omega
  keeps := fun l W W' h hk => (hk.block M (heap_lt h) (fun h => h rfl)).trans h
  calls := fun l W b o k n t c cp cl cc _ _ hJ _ hb hn => may1_any _ M l k n t c b o cp cl cc W hb hn hJ

/-- What May answers. -/
def Nd.named (x : Nd) : Bool := namedL (x.k :: x.c.kinds)
def mayF (x : Nd) : Int := if x.small then (if x.named then 0 else 10) else 2
set_option maxHeartbeats 400000 in
theorem May_any (x : Nd) (cp : Option Addr) (cl cc : Nat) (A : Nat → Prop) (w : World) (h : Tv w A x.k x.t x.c cp cl cc) :
    Calls Try.prog 25 #[tv x.k x.n x.t cp cl cc] w fun e w' => e = .returned (.int .i64 (mayF x)) ∧ Keeps (fun _ => False) w w' := by
  have hmf : ∀ (fn : Fn) (first cap : Array Value) (w : World), (Instr.makeFunc fn first cap).run Try.prog w = .ok (.func fn first cap) w := fun _ _ _ _ => rfl
  obtain ⟨w1, hw1⟩ : ∃ w1, w1 = w.alloc (.cells (four x.k x.n x.t cp cl cc) T) := ⟨_, rfl⟩
  obtain ⟨w2, hw2⟩ : ∃ w2, w2 = w1.alloc (.cells #[.bool true] 4) := ⟨_, rfl⟩
  have hK1 : Keeps (fun _ => False) w w1 := by rw [hw1]; exact (Keeps.refl _ w).alloc _
  have hK2 : Keeps (fun _ => False) w1 w2 := by rw [hw2]; exact (Keeps.refl _ w1).alloc _
  have hs1 : w1.heap.size = w.heap.size + 1 := by rw [hw1]; simp
  have hs2 : w2.heap.size = w.heap.size + 1 + 1 := by rw [hw2]; simp [hs1]
  have hn1 : NodeAt w1 (fun b => b < w1.heap.size) w.heap.size 0 x.k x.n x.t x.c cp cl cc := by rw [hw1]; exact (h.boxed _).top
  have hn : NodeAt w2 (fun b => b < w.heap.size + 1) w.heap.size 0 x.k x.n x.t x.c cp cl cc := (hn1.keeps hK2 (fun _ _ h => h) (by omega) (fun h => h)).mono (fun b hb => by omega)
  have hJ : NamedJ (w.heap.size + 1) [] w2 := by unfold NamedJ; rw [hw2, ← hs1]; exact heap_alloc_new _ _
  have hsee : See (fun b => b < w.heap.size + 1) (fun b => b = w.heap.size + 1) (NamedJ (w.heap.size + 1)) w2.heap.size 57 #[.pointer (some ⟨w.heap.size + 1, 0, none⟩)] := by rw [hs2]; exact see_may _
  have hwk := walk_any _ _ _ _ _ x.k x.n x.t x.c w.heap.size 0 cp cl cc [] w2 hsee (by show w.heap.size < w.heap.size + 1; omega) hn hJ rfl
  have hK := hK1.trans hK2
  have HW := Lib.hid hw2
  have HW1 := Lib.hid hw1
  clear hw1 hw2 hn1 hn hJ hsee
  by_cases hsm : x.small
  · rw [wlk1_small x hsm] at hwk
    have hm : mayF x = if x.named then 0 else 10 := by simp [mayF, hsm]
    rw [hm]
    obtain ⟨v, hv⟩ : ∃ v, x.named = v := ⟨_, rfl⟩
    have HV : Hid (namedL ([] ++ (x.k :: x.c.kinds)) = v) := hv
    rw [hv]
    clear hv hm hsm
    cases v
    all_goals
      go_enter Try.func25, Try.ntmps25
      go_wp2_with fail
      rw [← HW1.out, ← HW.out]
      refine hwk.mono ?_
      clear hwk
      rintro e W ⟨rfl, hJ, hk⟩
      unfold NamedJ at hJ
      dsimp only at hJ
      rw [HV.out] at hJ
      have m0 := (show W.cell? ⟨w.heap.size + 1, 0, none⟩ = _ by simp [World.cell?, hJ]; rfl)
      clear hJ
      go_wp2_with fail
      go_ret
      exact ⟨rfl, hK.trans' hk (fun b hb hl => by omega)⟩
  · have hg := wlk1_great x hsm
    obtain ⟨⟨q, bb, l⟩, hr⟩ : ∃ r, wlk1 x.k x.t x.c 1 ⟨0, 0, 0⟩ = r := ⟨_, rfl⟩
    rw [hr] at hwk hg
    dsimp only at hg
    subst hg
    have hm : mayF x = 2 := by simp [mayF, hsm]
    rw [hm]
    clear hm hr hsm
    go_enter Try.func25, Try.ntmps25
    go_wp2_with fail
    rw [← HW1.out, ← HW.out]
    refine hwk.mono ?_
    clear hwk
    rintro e W ⟨rfl, hJ, hk⟩
    clear hJ
    go_wp2_with fail
    go_ret
    exact ⟨rfl, hK.trans' hk (fun b hb hl => by omega)⟩
end Go.Proofs.Ytnphhibfiklfjaa

/-!
  Each, laid ahead: the nodes in their order; a path copied; a path made longer by one.
-/
namespace Go.Proofs.Ytnphhibfiklfjaa

open Go.RowKit

abbrev vint (x : Int) : Value := .int .i64 x
/-- The nodes of a forest, each ahead of its kids, each with its path; the first lies at p ++ [i]. -/
def preK (p : List Int) : Nat → Fo → List (List Int × Nd)
  | _, .nil => []
  | i, .cons k n t c r => (p ++ [(i : Int)], ⟨k, n, t, c⟩) :: preK (p ++ [(i : Int)]) 0 c ++ preK p (i + 1) r
def pre (p : List Int) (x : Nd) : List (List Int × Nd) := (p, x) :: preK p 0 x.c
theorem preK_cons (p : List Int) (i : Nat) (k n t c r) : preK p i (.cons k n t c r) = pre (p ++ [(i : Int)]) ⟨k, n, t, c⟩ ++ preK p (i + 1) r := by simp [preK, pre]
theorem preK_len (f : Fo) : ∀ (p : List Int) (i : Nat), (preK p i f).length = f.nodes := by
  induction f with
  | nil => intro p i; rfl
  | cons k n t c r ihc ihr => intro p i; simp [preK, Fo.nodes, ihc, ihr]
theorem pre_len (p : List Int) (x : Nd) : (pre p x).length = x.c.nodes + 1 := by simp [pre, preK_len]

theorem Try.intInfo : (Try.prog.info? 3).map (fun i => (i.zero, i.size, i.bytes)) = some (some (.int .i64 0), 1, 8) := by kernel_rfl
/-- A list of numbers in a row of its own; nil just where there is none. -/
structure Row (w : World) (v : Value) (xs : List Int) : Prop where
  own : w.ownsRow 0 3 1 v xs.length (xs.map vint)
  nil : xs = [] → v = .slice none 0 0
theorem Row.keeps {w w1 : World} {S : Nat → Prop} {v : Value} {xs : List Int} (h : Row w v xs) (hk : Keeps S w w1) (hb : ∀ g, v.ownBlock = some g → g < w.heap.size ∧ ¬ S g) : Row w1 v xs :=
  ⟨ownsRow_same h.own (fun b hm => by
    have : v.ownBlock = some b := by simpa using hm
    exact hk.block b (hb b this).1 (hb b this).2), h.nil⟩
theorem Row.lt {w : World} {v : Value} {xs : List Int} (h : Row w v xs) {g : Nat} (hg : v.ownBlock = some g) : g < w.heap.size := (h.own.lt g hg).2
theorem Row.form {w : World} {v : Value} {xs : List Int} (h : Row w v xs) : (v = .slice none 0 0 ∧ xs = []) ∨ ∃ g cap cur, v = .slice (some ⟨g, 0, none⟩) xs.length cap ∧ 0 < xs.length ∧ w.heap[g]? = some (.cells cur 3 (0, 0)) ∧ xs.length ≤ cap ∧ cap ≤ maxLen ∧ cur.size = cap ∧ cur.toList.take xs.length = xs.map vint := by
  rcases h.own.2 with ⟨h1, h2⟩ | ⟨g, cap, cur, h1, _, h2, h3, h4, h5, h6⟩
  · exact .inl ⟨h1, List.eq_nil_of_length_eq_zero h2⟩
  · right
    refine ⟨g, cap, cur, h1, ?_, h2, h3, h4, by simpa using h5, by simpa using h6⟩
    rcases Nat.eq_zero_or_pos xs.length with h0 | h0
    · have := h.nil (List.eq_nil_of_length_eq_zero h0)
      rw [h1] at this
      simp at this
    · exact h0
theorem Row.cellsOf {w : World} {xs : List Int} {g n cap : Nat} (h : Row w (.slice (some ⟨g, 0, none⟩) n cap) xs) : ∀ j u, (xs.map vint)[j]? = some u → w.cell? ((⟨g, 0, none⟩ : Addr).add j) = some u := h.own.cells rfl

theorem Row.shorter {w : World} {xs : List Int} {j : Int} {g cap : Nat} (h : Row w (.slice (some ⟨g, 0, none⟩) (xs.length + 1) cap) (xs ++ [j])) (hx : 0 < xs.length) : Row w (.slice (some ⟨g, 0, none⟩) xs.length cap) xs := by
  rcases h.form with ⟨h1, _⟩ | ⟨g', cap', cur, h1, _, h2, h3, h4, h5, h6⟩
  · simp at h1
  · simp only [List.length_append, List.length_cons, List.length_nil, Value.slice.injEq, Option.some.injEq, Addr.mk.injEq, and_true] at h1
    obtain ⟨rfl, _, rfl⟩ := h1
    simp only [List.length_append, List.length_cons, List.length_nil] at h3 h6
    refine ⟨⟨by simp, .inr ⟨g, cap, cur, rfl, Nat.zero_le _, h2, by omega, h4, by omega, ?_⟩⟩, fun hn => by rw [hn] at hx; simp at hx⟩
    have := congrArg (List.take xs.length) h6
    rw [List.take_take] at this
    rw [Nat.mul_one]
    simpa [Nat.min_eq_left (Nat.le_succ _)] using this
/-- What slices.Clone leaves. -/
def CloneR (xs : List Int) (w : World) (e : Ending) (w' : World) : Prop :=
  ∃ v, e = .returned v ∧ Row w' v xs ∧ (∀ g, v.ownBlock = some g → w.heap.size ≤ g) ∧ Keeps (fun _ => False) w w'

set_option maxRecDepth 100000 in
set_option maxHeartbeats 800000 in
theorem clone_any (xs : List Int) (hx : xs.length ≤ 100000) (v : Value) (w : World) (hr : Row w v xs) :
    Calls Try.prog 40 #[v] w (CloneR xs w) := by
  obtain ⟨i0, hi0, hz0, hz1, hz2⟩ := info_parts Try.intInfo
  rcases hr.form with ⟨rfl, rfl⟩ | ⟨g, cap, cur, rfl, hpos, hh, h1, h2, h3, h4⟩
  · have he : ∀ w : World, (binOp .eql 32 (.slice none 0 0) (.slice none 0 0)).run Try.prog w = .ok (.bool true) w := fun _ => by kernel_rfl
    go_enter Try.func40, Try.ntmps40
    go_wp2_with fail
    go_ret
    exact ⟨_, rfl, ⟨World.ownsRow_nil _ _ _ _, fun _ => rfl⟩, fun g hg => by simp [Value.ownBlock] at hg, Keeps.refl _ _⟩
  · have he : ∀ w : World, (binOp .eql 32 (.slice (some ⟨g, 0, none⟩) xs.length cap) (.slice none 0 0)).run Try.prog w = .ok (.bool false) w := fun _ => rfl
    have hcells := hr.cellsOf
    go_enter Try.func40, Try.ntmps40
    go_wp2_with (at_builtin; refine wpList_append_lies _ rfl _ _ 32 rfl w.heap.size 3 i0 _ 1 8 Try.underlying32 hi0 hz0 hz1 hz2 rfl (by omega) (.slice (some ⟨w.heap.size, 0, none⟩) 0 0) 0 [] rfl ?own ⟨g, 0, none⟩ xs.length cap (xs.map vint) rfl (by simp) ?news ?one hpos (by simp only [maxLen]; omega) (by omega) ?base _ rfl ?_)
    case own => exact ⟨rfl, .inr ⟨w.heap.size, 0, #[], rfl, Nat.le_refl _, heap_alloc_new w _, by omega, by simp [maxLen], rfl, rfl⟩⟩
    case news => 
      intro j u hu
      have := hcells j u hu
      rw [add0] at this ⊢
      exact (((Keeps.refl (fun _ => False) w).alloc _).cell (p := ⟨g, j, none⟩) (heap_lt hh) (fun h => h)).trans this
    case one => simp [Value.oneCell']
    case base => simp
    intro g1 cap1 w1 hown hgrow hat hlt
    go_wp2_with fail
    go_ret
    refine ⟨_, rfl, ⟨⟨by simp, hown.2.imp id (fun ⟨g, cap, cur, a, b, c⟩ => ⟨g, cap, cur, a, Nat.zero_le _, c⟩)⟩, fun hn => by rw [hn] at hpos; simp at hpos⟩, fun x hx => ?_, ?_⟩
    · exact (hown.lt x hx).1
    · exact ((Keeps.refl _ w).alloc _).trans' (Keeps.grown (S := fun b => b = w.heap.size) (Keeps.refl _ _) hgrow (fun k hk _ => by simp [Value.ownBlock] at hk; exact hk.symm)) (fun b hb hl => by omega)
/-- A path made longer by one: in its own row where there is room, else in a new one. -/
theorem step_longer {P : Program} {ops : Array Oper} {o : Oper} {a : Act} {w : World} {K : Act → World → Prop} {Q : Exit → Act → World → Prop} {E : Prop} (hgd : o.guard = none) (s x : Operand) (t : TypeId)
    (ho : o.op = .call { callee := .builtin .append, args := #[s, x], argTypes := #[t, t] }) (i : TypeInfo) (z : Value) (ht : P.underlying t = some (.slice 3)) (hi : P.info? 3 = some i) (hz : i.zero = some z) (hs1 : i.size = 1) (hb8 : i.bytes = 8) (hzs : z.cells.size = 1)
    (v : Value) (xs : List Int) (hl : xs.length ≤ 100000) (hs : a.eval s = v) (hr : Row w v xs) (j : Int) (B : Nat) (hx : a.eval x = .slice (some ⟨B, 0, none⟩) 1 1) (hB : w.heap[B]? = some (.cells #[vint j] 3 (0, 0)))
    (h : ∀ g cap w', Row w' (.slice (some ⟨g, 0, none⟩) (xs.length + 1) cap) (xs ++ [j]) → g < w'.heap.size → ((v = .slice (some ⟨g, 0, none⟩) xs.length cap ∧ Keeps (fun b => b = g) w w') ∨ (w.heap.size ≤ g ∧ Keeps (fun _ => False) w w')) →
      K (a.put o.dst (.slice (some ⟨g, 0, none⟩) (xs.length + 1) cap)) w') :
    if Region.wanted o (yielded ops a.tmps) = true then Oper.wp P o a w K Q else E := by
  have hw : Region.wanted o (yielded ops a.tmps) = true := by simp [Region.wanted, hgd]
  rw [if_pos hw]
  have hnews : ∀ (k : Nat) (u : Value), [vint j][k]? = some u → w.cell? ((⟨B, 0, none⟩ : Addr).add k) = some u := by
    intro k u hu
    cases k with
    | zero => rw [add0]; simp at hu; rw [← hu]; simp [World.cell?, hB]
    | succ k => simp at hu
  have e1 : (xs ++ [j]).map vint = xs.map vint ++ [vint j] := by simp
  have fin : ∀ v' w', (Builtin.append_ #[t, t] o.type #[v, .slice (some ⟨B, 0, none⟩) 1 1]).run P w = .ok v' w' → K (a.put o.dst v') w' → o.wp P a w K Q := by
    intro v' w' hrun hk
    unfold Oper.wp execOp
    simp only [ho, resolve, invoke, builtin, Sem.run_bind, Sem.run_pure, Result.andThen_ok, List.map_toArray, List.map_cons, List.map_nil, hs, hx, hrun]
    exact hk
  have grow : ∀ v' w', w'.ownsRow w.heap.size 3 1 v' (xs.length + 1) (xs.map vint ++ [vint j]) → w.grownBy w' none → K (a.put o.dst v') w' := by
    intro v' w' h1 h2
    obtain ⟨g, cap, rfl, hg, hlt⟩ := h1.form (by omega)
    refine h g cap w' ⟨?_, fun hn => by simp at hn⟩ hlt (.inr ⟨hg, (Keeps.refl _ w).grown h2 (fun k hk => by cases hk)⟩)
    rw [e1, List.length_append]
    exact ⟨h1.1, h1.2.imp id (fun ⟨g, cap, cur, a, b, c⟩ => ⟨g, cap, cur, a, Nat.zero_le _, c⟩)⟩
  rcases hr.form with ⟨rfl, rfl⟩ | ⟨g, cap, cur, rfl, hpos, hh, h1, h2, h3, h4⟩
  · obtain ⟨v', w', hrun, r1, r2, _⟩ := run_append_own (P := P) w w.heap.size t o.type 3 i z 1 8 ht hi hz hs1 hb8 hzs (by omega) (.slice none 0 0) 0 [] (World.ownsRow_nil w _ _ 1) ⟨B, 0, none⟩ 1 1 [vint j] rfl hnews (by simp [Value.oneCell']) (by simp [maxLen]) (by omega) (Nat.le_refl _)
    exact fin _ _ hrun (grow v' w' (by simpa using r1) r2)
  · by_cases hroom : xs.length + 1 ≤ cap
    · obtain ⟨v', w', hrun, r1, r2, _⟩ := run_append_own (P := P) w 0 t o.type 3 i z 1 8 ht hi hz hs1 hb8 hzs (by omega) _ _ _ hr.own ⟨B, 0, none⟩ 1 1 [vint j] rfl hnews (by simp [Value.oneCell']) (by simp only [maxLen]; omega) (by omega) (Nat.zero_le _)
      have hrun2 := run_append_room_cells (P := P) w t o.type 3 i ht hi g 0 xs.length cap ⟨B, 0, none⟩ 1 1 [vint j] (by simp [hs1]) hnews (by simp [Value.oneCell']) hroom
        (fun k hk => by simp at hk; subst hk; simp [World.cell?, hh, hs1, h3]; omega) (fun k hk => by simp [World.frozen?, hh])
      have e2 := hrun.symm.trans hrun2
      injection e2 with e3 e4
      subst e3
      refine fin _ _ hrun (h g cap w' ⟨?_, fun hn => by simp at hn⟩ ?_ (.inl ⟨rfl, (Keeps.refl _ w).grown r2 (fun k hk _ => by simp [Value.ownBlock] at hk; exact hk.symm)⟩))
      · rw [e1, List.length_append]; exact r1
      · exact (r1.lt g rfl).2
    · obtain ⟨v', w', hrun, r1, r2⟩ := run_append_arg_grows (P := P) w t o.type 3 i z 1 8 ht hi hz hs1 hb8 hzs (by omega) ⟨g, 0, none⟩ xs.length cap (xs.map vint) (by simp) hr.cellsOf ⟨B, 0, none⟩ 1 1 [vint j] rfl hnews (by omega) (by simp only [maxLen]; omega) (by omega)
      exact fin _ _ hrun (grow v' w' r1 r2)
end Go.Proofs.Ytnphhibfiklfjaa

/-!
  Small words on worlds and trees.
-/
namespace Go.Proofs.Ytnphhibfiklfjaa

open Go.RowKit

/-- What was there stays. -/
theorem Keeps.heap {w w1 : World} {b : Nat} {o : Obj} (hk : Keeps (fun _ => False) w w1) (h : w.heap[b]? = some o) : w1.heap[b]? = some o := (hk.block _ (heap_lt h) (fun h => h)).trans h
theorem Tv.next {w w1 : World} {A : Nat → Prop} {k t c cp cl cc} (h : Tv w A k t c cp cl cc) (hk : Keeps (fun _ => False) w w1) : Tv w1 A k t c cp cl cc := h.keeps hk (fun _ _ h => h)
end Go.Proofs.Ytnphhibfiklfjaa

/-!
  Rows in memory of their own: a value at a place; a place that holds one that grows.
-/
namespace Go.Proofs.Ytnphhibfiklfjaa

open Go.RowKit

/-- A value at a place of a row. -/
theorem ownsRow_set {w : World} {D e n g c : Nat} {xs : List Value} (h : w.ownsRow D e 1 (.slice (some ⟨g, 0, none⟩) n c) n xs) (k : Nat) (hk : k < n) (v : Value) : (w.setCell ⟨g, k, none⟩ v).ownsRow D e 1 (.slice (some ⟨g, 0, none⟩) n c) n (xs.set k v) := by
  refine ⟨by rw [List.length_set]; exact h.1, ?_⟩
  rcases h.2 with ⟨h1, _⟩ | ⟨g', cap, cur, h1, h2, h3, h4, h5, h6, h7⟩
  · simp at h1
  · simp only [Value.slice.injEq, Option.some.injEq, Addr.mk.injEq, and_true, true_and] at h1
    obtain ⟨rfl, rfl⟩ := h1
    refine .inr ⟨g, c, cur.setIfInBounds k v, rfl, h2, heap_set h3 k v, h4, h5, by simpa using h6, ?_⟩
    rw [Array.toList_setIfInBounds, List.take_set, h7]
theorem fill_step {α : Type} (m : α) (xs : List α) (k : Nat) (hk : k < xs.length) : (List.replicate k m ++ xs.drop k).set k m = List.replicate (k + 1) m ++ xs.drop (k + 1) := by
  rw [List.set_append_right _ _ (by simp), List.length_replicate, Nat.sub_self, List.drop_eq_getElem_cons hk, List.set_cons_zero, List.replicate_succ']
  simp
/-! Rows, and a place that holds one. -/

theorem ownsRow_blk {w : World} {D e s n : Nat} {v : Value} {xs : List Value} (h : w.ownsRow D e s v n xs) {b : Nat} (hb : v.ownBlock = some b) : D ≤ b ∧ ∃ cur, w.heap[b]? = some (.cells cur e (0, 0)) := by
  rcases h.2 with ⟨h1, _⟩ | ⟨g, cap, cur, h1, h2, h3, _⟩
  · rw [h1] at hb; simp [Value.ownBlock] at hb
  · rw [h1] at hb
    have : g = b := by simpa [Value.ownBlock] using hb
    subst this
    exact ⟨h2, cur, h3⟩
theorem rows_ne {w : World} {D D' e e' s s' n n' : Nat} {v v' : Value} {xs xs' : List Value} (h : w.ownsRow D e s v n xs) (h' : w.ownsRow D' e' s' v' n' xs') (he : e ≠ e') {b : Nat} (hb : v.ownBlock = some b) : v'.ownBlock ≠ some b := fun e2 => by
  obtain ⟨_, cur, h1⟩ := ownsRow_blk h hb
  obtain ⟨_, cur', h2⟩ := ownsRow_blk h' e2
  rw [h1] at h2
  simp only [Option.some.injEq, Obj.cells.injEq] at h2
  exact he h2.2.1
/-- What a statement such as 'b.l = append(b.l, x)' leaves. -/
theorem push_cell {V w3 : World} {pb i D e s n gg cap : Nat} {cs : Array Value} {TT : TypeId} {v : Value} {xs news : List Value} {o : Obj} (hbox : V.heap[pb]? = some (.cells cs TT (0, 0))) (hpb : pb < D) (hv : V.ownsRow D e s v n xs) (hg : (V.alloc o).grownBy w3 v.ownBlock)
    (hr : w3.ownsRow D e s (.slice (some ⟨gg, 0, none⟩) (n + 1) cap) (n + 1) (xs ++ news)) :
    (w3.setCell ⟨pb, i, none⟩ (.slice (some ⟨gg, 0, none⟩) (n + 1) cap)).heap[pb]? = some (.cells (cs.setIfInBounds i (.slice (some ⟨gg, 0, none⟩) (n + 1) cap)) TT (0, 0)) ∧
    (w3.setCell ⟨pb, i, none⟩ (.slice (some ⟨gg, 0, none⟩) (n + 1) cap)).ownsRow D e s (.slice (some ⟨gg, 0, none⟩) (n + 1) cap) (n + 1) (xs ++ news) ∧
    Keeps (fun b => b = pb ∨ v.ownBlock = some b) V (w3.setCell ⟨pb, i, none⟩ (.slice (some ⟨gg, 0, none⟩) (n + 1) cap)) := by
  have hne : v.ownBlock ≠ some pb := fun h => by have := (hv.lt pb h).1; omega
  have hk : Keeps (fun b => b = pb ∨ v.ownBlock = some b) V w3 := ((Keeps.refl _ V).alloc o).grown hg (fun k hk _ => .inr hk)
  have hb3 : w3.heap[pb]? = some (.cells cs TT (0, 0)) := by
    rw [hg.block pb (by have := heap_lt hbox; simp; omega) (fun h => hne h.symm), Below.heap_alloc _ _ _ (heap_lt hbox)]
    exact hbox
  refine ⟨heap_set hb3 _ _, ownsRow_same hr (fun b hb => ?_), hk.setCell (p := ⟨pb, i, none⟩) (fun _ => .inl rfl) _⟩
  have hb' : b = gg := by simpa [Value.ownBlock] using hb
  have := (hr.lt gg rfl).1
  exact Below.heap_setCell _ _ _ _ (by show b ≠ pb; omega)
theorem ownsRow_slice {w : World} {D e s n : Nat} {v : Value} {xs : List Value} (h : w.ownsRow D e s v n xs) : ∃ pp cap, v = .slice pp n cap ∧ n ≤ cap ∧ cap ≤ maxLen ∧ (0 < n → ∃ g, pp = some ⟨g, 0, none⟩) := by
  rcases h.2 with ⟨h1, h2⟩ | ⟨g, cap, cur, h1, _, _, h4, h5, _⟩
  · subst h2; exact ⟨none, 0, h1, Nat.le_refl _, Nat.zero_le _, fun h => by omega⟩
  · exact ⟨_, cap, h1, h4, h5, fun _ => ⟨g, rfl⟩⟩
end Go.Proofs.Ytnphhibfiklfjaa

/-!
  tree.At: its walk.
-/
namespace Go.Proofs.Ytnphhibfiklfjaa

open Go.RowKit

set_option maxHeartbeats 800000 in
theorem At_any (x : Nd) (path : List Int) (cp : Option Addr) (cl cc : Nat) (A A' : Nat → Prop) (pp : Option Addr) (pl pc : Nat) (w : World) (h : Tv w A x.k x.t x.c cp cl cc) (hp : Ints w A' path pp pl) :
   Calls Try.prog 11 #[tv x.k x.n x.t cp cl cc, .slice pp pl pc] w (TreeRes w (atF x path)) := by
  obtain ⟨w1, hw1⟩ : ∃ w1, w1 = w.alloc (.cells (four x.k x.n x.t cp cl cc) T) := ⟨_, rfl⟩
  obtain ⟨w2, hw2⟩ : ∃ w2, w2 = w1.alloc (.cells (four e0 0 e0 none 0 0) T) := ⟨_, rfl⟩
  have hK1 : Keeps (fun _ => False) w w1 := by rw [hw1]; exact (Keeps.refl _ w).alloc _
  have hK2 : Keeps (fun _ => False) w1 w2 := by rw [hw2]; exact (Keeps.refl _ w1).alloc _
  have hs1 : w1.heap.size = w.heap.size + 1 := by rw [hw1]; simp
  have hs2 : w2.heap.size = w.heap.size + 1 + 1 := by rw [hw2]; simp [hs1]
  have hn1 : NodeAt w1 A w.heap.size 0 x.k x.n x.t x.c cp cl cc := by rw [hw1]; exact h.boxed _
  have hn := (hn1.keeps hK2 (fun _ _ h => h) (by omega) (fun h => h)).top
  have hres : w2.heap[w.heap.size + 1]? = some (.cells (four e0 0 e0 none 0 0) T (0, 0)) := by rw [hw2, ← hs1]; exact heap_alloc_new _ _
  have hg := great_any x.k x.n x.t x.c w.heap.size 0 cp cl cc w2 (by omega) hn
  rw [big_small] at hg
  have hK := hK1.trans hK2
  have hp2 := hp.keeps hK (fun _ _ h => h)
  have HW := Lib.hid hw2
  have HW1 := Lib.hid hw1
  clear hw1 hw2 hn1
  by_cases hsm : x.small
  · have hfi := fun W (hk : Keeps (fun _ => False) w2 W) => find_any path x _ A' w.heap.size 0 cp cl cc pp pl pc W (hn.keeps hk (fun _ _ h => h) (by omega) (fun h => h)) (hp2.keeps hk (fun _ _ h => h))
    simp only [hsm, decide_true, Bool.not_true] at hg
    have hcn : x.c.nodes + 1 ≤ 100000 := by have := hsm.1; simp only [Nd.nodes] at this; omega
    have hcf : atF x path = found (sub path x) := by simp [atF, hsm]
    have HC := Lib.hid hcf
    clear hcf hsm
    have hn2 : ∀ W, Keeps (fun _ => False) w2 W → w.heap.size < W.heap.size := fun W hk => by have := hk.size; omega
    go_enter Try.func11, Try.ntmps11
    go_wp2_with fail
    rw [← HW1.out, ← HW.out]
    refine hg.mono ?_
    clear hg
    rintro e W ⟨rfl, hk⟩
    go_wp2_with fail
    refine (hfi W hk).mono ?_
    clear hfi
    rintro e W' ⟨rfl, ⟨hsub, rfl⟩ | ⟨b', o', y, cp1, cl1, cc1, hsub, rfl, _, hny, _⟩⟩
    · have HS := Lib.hid hsub
      clear hsub
      have hres2 : W.heap[w.heap.size + 1]? = some (.cells (four e0 0 e0 none 0 0) T (0, 0)) := (hk.block _ (heap_lt hres) (fun h => h)).trans hres
      obtain ⟨r0, r1, r2, r3, f0, f1, f2, f3⟩ := box4 hres2
      go_wp2_with fail
      refine bodyPost_ret (v := .tuple #[tv e0 0 e0 none 0 0, .int .i64 23]) (by simp [results, Try.results11, go_sem, r0, r1, r2, r3]) rfl ?_
      have h4 := Keeps.four W (w.heap.size + 1) (.string e0) (.int .i64 0) (.string e0) (.slice none 0 0)
      rw [HC.out, HS.out]
      exact TreeRes.zero ((hK.trans hk).trans' h4 (fun b hb hl => by omega))
    · have hyn := sub_nodes path x y hsub
      have HS := Lib.hid hsub
      clear hsub
      have hbW : b' < W.heap.size := World.block_lt_of_cell? W _ hny.c0
      have htw := twin_any (y.c.nodes + 1) (by omega) y.k y.n y.t y.c _ b' o' cp1 cl1 cc1 W (by omega) hbW hny
      go_wp2_with fail
      refine htw.mono ?_
      clear htw
      rintro e W2 ⟨cp2, cl2, cc2, bs, rfl, ho, hnw, hk2⟩
      have hk' := hk.trans hk2
      have hres2 : W2.heap[w.heap.size + 1]? = some (.cells (four e0 0 e0 none 0 0) T (0, 0)) := (hk'.block _ (heap_lt hres) (fun h => h)).trans hres
      obtain ⟨r0, r1, r2, r3, f0, f1, f2, f3⟩ := box4 hres2
      have hsW := hk.size
      go_wp2_with fail
      refine bodyPost_ret (v := .tuple #[tv y.k y.n y.t cp2 cl2 cc2, .int .i64 0]) (by simp [results, Try.results11, go_sem, r0, r1, r2, r3]) rfl ?_
      have h4 := Keeps.four W2 (w.heap.size + 1) (.string y.k) (.int .i64 y.n) (.string y.t) (.slice cp2 cl2 cc2)
      rw [HC.out, HS.out]
      exact ⟨cp2, cl2, cc2, bs, rfl, ho.keeps h4 (fun b hb => ⟨hnw.hi b hb, fun e => by have := hnw.lo b hb; omega⟩), (hnw.keeps h4).mono (by omega), hny.size, (hK.trans hk').trans' h4 (fun b hb hl => by omega)⟩
  · simp only [hsm, decide_false, Bool.not_false] at hg
    have hcf : atF x path = (zeroNd, 2) := by simp [atF, hsm]
    rw [hcf]
    clear hcf hsm hn
    go_enter Try.func11, Try.ntmps11
    go_wp2_with fail
    rw [← HW1.out, ← HW.out]
    refine hg.mono ?_
    clear hg
    rintro e W2 ⟨rfl, hk'⟩
    have hres2 : W2.heap[w.heap.size + 1]? = some (.cells (four e0 0 e0 none 0 0) T (0, 0)) := (hk'.block _ (heap_lt hres) (fun h => h)).trans hres
    obtain ⟨r0, r1, r2, r3, f0, f1, f2, f3⟩ := box4 hres2
    go_wp2_with fail
    refine bodyPost_ret (v := .tuple #[tv e0 0 e0 none 0 0, .int .i64 2]) (by simp [results, Try.results11, go_sem, r0, r1, r2, r3]) rfl ?_
    have h4 := Keeps.four W2 (w.heap.size + 1) (.string e0) (.int .i64 0) (.string e0) (.slice none 0 0)
    exact TreeRes.zero ((hK.trans hk').trans' h4 (fun b hb hl => by omega))
end Go.Proofs.Ytnphhibfiklfjaa

/-!
  A list of kids, built kid by kid; espalierref4.Own: its walk.
-/
namespace Go.Proofs.Ytnphhibfiklfjaa

open Go.RowKit

/-- Half way: j kids are there, in blocks from D on. -/
structure RowI (D : Nat) (W : World) (c : Fo) (j : Nat) (vp : Option Addr) (vl vc : Nat) (xs : List Value) (bs : List Nat) : Prop where
  row : W.ownsRow 0 T 4 (.slice vp vl vc) j xs
  rep : RowRep W (c.take j) xs bs
  news : News W D (sb vp vl vc ++ bs)
theorem RowI.start (D : Nat) (W : World) (c : Fo) : RowI D W c 0 none 0 0 [] [] := ⟨World.ownsRow_nil _ _ _ _, RowRep.nil _, News.nil _ _⟩
theorem RowI.lo {D : Nat} {W : World} {c : Fo} {j : Nat} {vp : Option Addr} {vl vc : Nat} {xs : List Value} {bs : List Nat} (h : RowI D W c j vp vl vc xs bs) {b : Nat} (hb : (Value.slice vp vl vc).ownBlock = some b) : D ≤ b ∧ b < W.heap.size := by
  have hm : b ∈ sb vp vl vc ++ bs := List.mem_append.2 (.inl (by simp [sb, hb]))
  exact ⟨h.news.lo b hm, h.news.hi b hm⟩
theorem RowI.keeps {D : Nat} {W W1 : World} {S : Nat → Prop} {c : Fo} {j : Nat} {vp : Option Addr} {vl vc : Nat} {xs : List Value} {bs : List Nat} (h : RowI D W c j vp vl vc xs bs) (hk : Keeps S W W1) (hS : ∀ b, S b → b < D) : RowI D W1 c j vp vl vc xs bs :=
  ⟨ownsRow_same h.row (fun b hb => by
    have hb' : (Value.slice vp vl vc).ownBlock = some b := by simpa using hb
    have := h.lo hb'
    exact hk.block b this.2 (fun hs => by have := hS b hs; omega)),
   h.rep.keeps hk (fun b hb => ⟨h.news.hi b (List.mem_append.2 (.inr hb)), fun hs => by have := hS b hs; have := h.news.lo b (List.mem_append.2 (.inr hb)); omega⟩), h.news.keeps hk⟩
/-- One kid more. -/
theorem RowI.push {D : Nat} {wr W2 Wp w3 : World} {c : Fo} {j : Nat} {vp : Option Addr} {vl vc : Nat} {xs : List Value} {bs : List Nat} (hI : RowI D wr c j vp vl vc xs bs) (hDw : D ≤ wr.heap.size)
    {k1 : ByteArray} {n1 : Int} {t1 : ByteArray} {s1 r1 : Fo} {cp1 : Option Addr} {cl1 cc1 : Nat} {bs1 : List Nat} (hd : c.drop j = .cons k1 n1 t1 s1 r1) (ht1 : szok k1 t1)
    (ho : Own W2 s1 cp1 cl1 cc1 bs1) (hn : News W2 wr.heap.size bs1) (hk : Keeps (fun _ => False) wr W2) (hp : Keeps (fun _ => False) W2 Wp) {gg cap : Nat}
    (hrow : w3.ownsRow 0 T 4 (.slice (some ⟨gg, 0, none⟩) (j + 1) cap) (j + 1) (xs ++ [.string k1, .int .i64 n1, .string t1, .slice cp1 cl1 cc1]))
    (hg : Wp.grownBy w3 (Value.slice vp vl vc).ownBlock) (hat : (Value.slice vp vl vc).ownBlock = some gg ∨ gg = Wp.heap.size) (hlt : gg < w3.heap.size) :
    RowI D w3 c (j + 1) (some ⟨gg, 0, none⟩) (j + 1) cap (xs ++ [.string k1, .int .i64 n1, .string t1, .slice cp1 cl1 cc1]) (bs ++ bs1) ∧ Keeps (fun b => (Value.slice vp vl vc).ownBlock = some b) Wp w3 := by
  have h2 := hk.size
  have hp2 := hp.size
  have hsz3 := hg.size
  have hsb : ∀ x, (Value.slice vp vl vc).ownBlock = some x → x ∈ sb vp vl vc := fun x hx => by simp [sb, hx]
  have hnd := List.nodup_append.1 hI.news.nodup
  have hgg : D ≤ gg := by
    rcases hat with h | h
    · exact (hI.lo h).1
    · omega
  have hold : ∀ x, x < W2.heap.size → x ∉ sb vp vl vc → w3.heap[x]? = W2.heap[x]? := fun x hx hn1 => by
    rw [hg.block x (by omega) (fun e => hn1 (hsb _ e.symm)), hp.block x hx (fun h => h)]
  have hka : Keeps (fun b => (Value.slice vp vl vc).ownBlock = some b) Wp w3 := ⟨hg.os, hg.tape, hg.output, hg.size, fun x hx hn => hg.block x hx (fun e => hn e.symm)⟩
  refine ⟨⟨hrow, ?_, ?_⟩, hka⟩
  · rw [Fo.take_step hd]
    have hr2 : RowRep W2 (c.take j) xs bs := hI.rep.keeps hk (fun b hb => ⟨hI.news.hi b (List.mem_append.2 (.inr hb)), fun h => h⟩)
    refine RowRep.snoc ht1 (ho.same fun b hb => ?_) (hr2.same fun b hb => ?_)
    · have h1 := hn.lo b hb
      refine hold b (hn.hi b hb) (fun h => ?_)
      have := hI.news.hi b (List.mem_append.2 (.inl h))
      omega
    · have h1 := hI.news.hi b (List.mem_append.2 (.inr hb))
      exact hold b (by omega) (fun h => hnd.2.2 b h b hb rfl)
  · have hmem : ∀ x, x ∈ bs ++ bs1 → D ≤ x ∧ x < W2.heap.size ∧ x ∉ sb vp vl vc := fun x hx => by
      rcases List.mem_append.1 hx with h | h
      · have h1 := hI.news.hi x (List.mem_append.2 (.inr h))
        exact ⟨hI.news.lo x (List.mem_append.2 (.inr h)), by omega, fun h' => hnd.2.2 x h' x h rfl⟩
      · have h1 := hn.lo x h
        exact ⟨by omega, hn.hi x h, fun h' => by have := hI.news.hi x (List.mem_append.2 (.inl h')); omega⟩
    have hsb2 : sb (some ⟨gg, 0, none⟩) (j + 1) cap = [gg] := rfl
    rw [hsb2]
    refine ⟨fun x hx => ?_, fun x hx => ?_, ?_⟩
    · rcases List.mem_append.1 hx with h | h
      · simp only [List.mem_singleton] at h; omega
      · exact (hmem x h).1
    · rcases List.mem_append.1 hx with h | h
      · simp only [List.mem_singleton] at h; omega
      · have := (hmem x h).2.1; omega
    · refine List.nodup_append.2 ⟨by simp, List.nodup_append.2 ⟨hnd.2.1, hn.nodup, fun a ha b hb e => ?_⟩, fun a ha b hb e => ?_⟩
      · have h1 := hI.news.hi a (List.mem_append.2 (.inr ha))
        have h3 := hn.lo b hb
        omega
      · simp only [List.mem_singleton] at ha
        have h1 := hmem b hb
        rcases hat with h | h
        · exact h1.2.2 (by rw [← e, ha]; exact hsb _ h)
        · omega
theorem RowI.own {D : Nat} {W : World} {c : Fo} {j : Nat} {vp : Option Addr} {vl vc : Nat} {xs : List Value} {bs : List Nat} (h : RowI D W c j vp vl vc xs bs) (hl : c.len = j) : Own W c vp vl vc (sb vp vl vc ++ bs) := by
  have hr := h.rep
  rw [Fo.take_len (by omega)] at hr
  exact ⟨xs, bs, by rw [hl]; exact h.row, hr, rfl⟩

set_option maxRecDepth 100000 in
set_option maxHeartbeats 1600000 in
theorem rOwn_any : ∀ (N : Nat), N ≤ 100000 → ∀ (k : ByteArray) (n : Int) (t : ByteArray) (c : Fo) (A : Nat → Prop) (cp : Option Addr) (cl cc : Nat) (w : World), c.nodes < N → Tv w A k t c cp cl cc →
   Calls Try.prog 63 #[tv k n t cp cl cc] w (TwinR k n t c w) := by
  intro N
  induction N with
  | zero => intros; omega
  | succ N ih =>
    intro hN1 k n t c A cp cl cc w hN h
    obtain ⟨i0, hi0, hz0, hz1, hz2⟩ := info_parts Try.treeInfo
    obtain ⟨w1, hw1⟩ : ∃ w1, w1 = w.alloc (.cells (four k n t cp cl cc) T) := ⟨_, rfl⟩
    obtain ⟨w2, hw2⟩ : ∃ w2, w2 = w1.alloc (.cells (four e0 0 e0 none 0 0) T) := ⟨_, rfl⟩
    have hK1 : Keeps (fun _ => False) w w1 := by rw [hw1]; exact (Keeps.refl _ w).alloc _
    have hK2 : Keeps (fun _ => False) w1 w2 := by rw [hw2]; exact (Keeps.refl _ w1).alloc _
    have hs1 : w1.heap.size = w.heap.size + 1 := by rw [hw1]; simp
    have hs2 : w2.heap.size = w.heap.size + 2 := by rw [hw2]; simp [hs1]
    have hb1 : w1.heap[w.heap.size]? = some (.cells (four k n t cp cl cc) T (0, 0)) := by rw [hw1]; exact heap_alloc_new _ _
    have hb2 := hK2.heap hb1
    have hr2 : w2.heap[w.heap.size + 1]? = some (.cells (four e0 0 e0 none 0 0) T (0, 0)) := by rw [hw2, ← hs1]; exact heap_alloc_new _ _
    have hK := hK1.trans hK2
    have ht2 := h.next hK
    have hlc := h.lc
    have hcm := h.cm
    have hlen := h.len
    have hcl : cl ≤ 100000 := by have h1 := Fo.len_nodes c; omega
    have HL := Lib.hid hlen
    have HI := Lib.hid ih
    have HW := Lib.hid hw2
    have HW1 := Lib.hid hw1
    clear hw1 hw2 hlen ih hb1
    go_enter Try.func63, Try.ntmps63
    go_wp2_with fail
    rw [← HW1.out, ← HW.out]
    go_loopg [3, 4] cl (fun m l i W => ∃ j : Nat, j + m = cl ∧ i = .int .i64 j ∧ ∃ vp vl vc xs bs, l = .slice vp vl vc ∧ RowI (w.heap.size + 2) W c j vp vl vc xs bs ∧ Keeps (fun _ => False) w2 W)
    case atStart => exact ⟨0, by omega, rfl, none, 0, 0, [], [], rfl, RowI.start _ _ _, Keeps.refl _ _⟩
    case round =>
      obtain ⟨j, hjm, rfl, vp, vl, vc, xs, bs, rfl, hI, hk⟩ := hrel
      have hbr := hk.heap hb2
      obtain ⟨b0, b1, b2, b3, q0, q1, q2, q3⟩ := box4 hbr
      have HJ := Lib.hid hjm
      have HRI := Lib.hid hI
      have HKr := Lib.hid hk
      have hks := hk.size
      clear hjm
      by_cases hlt : j < cl
      · have htr := ht2.next hk
        obtain ⟨kb, ko, rfl, hAk, hkb⟩ := htr.kids.hasAddr (by omega)
        obtain ⟨k1, n1, t1, s1, r1, hdr⟩ := Fo.drop_lt j c (by rw [HL.out]; exact hlt)
        obtain ⟨cp1, cl1, cc1, hn1⟩ := htr.kids.at_ j hdr hlt
        have hcN1 : s1.nodes < N := by
          have h1 := Fo.nodes_drop j c
          rw [hdr] at h1
          simp only [Fo.nodes] at h1
          omega
        have hz := HI.out (by omega) k1 n1 t1 s1 A cp1 cl1 cc1 wr hcN1 hn1.tv
        have hsz1 := hn1.size
        have HD := Lib.hid hdr
        have a0 := hn1.c0
        have a1 := hn1.c1
        have a2 := hn1.c2
        have a3 := hn1.c3
        have hi0' : (0 : Int) ≤ (j : Int) := Int.natCast_nonneg _
        have hi1 : (j : Int) < (cl : Int) := by omega
        have hj : j + 1 ≤ maxLen := by unfold maxLen; omega
        clear hdr hn1 htr hI hk
        go_wp2_with fail
        refine hz.mono ?_
        clear hz a0 a1 a2 a3 b0 b1 b2 b3 q0 q1 q2 q3
        rintro e W2 ⟨cp2, cl2, cc2, bs1, rfl, hO, hNw, hk2⟩
        obtain ⟨Wp, hWp⟩ : ∃ Wp, Wp = W2.alloc (.cells (four k1 n1 t1 cp2 cl2 cc2) T) := ⟨_, rfl⟩
        have hkp : Keeps (fun _ => False) W2 Wp := by rw [hWp]; exact (Keeps.refl _ W2).alloc _
        have hbp : Wp.heap[W2.heap.size]? = some (.cells (four k1 n1 t1 cp2 cl2 cc2) T (0, 0)) := by rw [hWp]; exact heap_alloc_new _ _
        obtain ⟨a0, a1, a2, a3, _⟩ := box4 hbp
        have hrow := (HRI.out.keeps (hk2.trans hkp) (fun _ h => h.elim)).row
        have hsp := hkp.size
        have hs2' := hk2.size
        have HWp := Lib.hid hWp
        have HO := Lib.hid hO
        have HNw := Lib.hid hNw
        have HK2 := Lib.hid hk2
        have HKP := Lib.hid hkp
        rw [hWp] at a0 a1 a2 a3
        clear hWp hO hNw hk2 hkp hbp
        go_upto_region 6 with fail
        rw [← HWp.out]
        rw [← HWp.out] at a0 a1 a2 a3
        go_wp2_with (at_builtin; refine wpList_append_lies _ rfl _ _ _ rfl 0 T i0 _ 4 64 Try.underlying22 hi0 hz0 hz1 hz2 rfl (by decide) (.slice vp vl vc) j xs rfl (hrow.alloc _) ⟨Wp.heap.size, 0, none⟩ 1 1 [.string k1, .int .i64 n1, .string t1, .slice cp2 cl2 cc2] rfl rfl (World.news_of_block (cs := #[.string k1, .int .i64 n1, .string t1, .slice cp2 cl2 cc2]) (t := T) (fr := (0, 0)) (heap_alloc_new Wp _)) (by simp [Value.oneCell']) (by omega) hj (by omega) (by omega) (Wp.heap.size + 1) (by simp) ?_; intro gg cap w3 hown3 hgrow3 hat3 hlt3)
        go_roundg (gk - 1)
        case measure => have := HJ.out; omega
        case rel =>
          have hks1 := HKr.out.size
          obtain ⟨h1, h2⟩ := HRI.out.push (by omega) HD.out hsz1 HO.out HNw.out HK2.out (HKP.out.alloc _) hown3 hgrow3 (by simpa using hat3) hlt3
          exact ⟨j + 1, by have := HJ.out; omega, by go_num, _, _, _, _, _, rfl, h1, (((HKr.out.trans HK2.out).trans HKP.out).alloc _).trans' h2 (fun b hb hl => by have := (HRI.out.lo hb).1; omega)⟩
      · have hbres := hk.heap hr2
        obtain ⟨r0, r1, r2, r3, g0, g1, g2, g3⟩ := box4 hbres
        have hfin : ∀ W', Keeps (fun b => b = w.heap.size ∨ b = w.heap.size + 1) wr W' → TwinR k n t c w (.returned (tv k n t vp vl vc)) W' := fun W' hk' => by
          have hlen : c.len = j := by have := HL.out; have := HJ.out; omega
          have h1 := HRI.out.keeps hk' (fun b hb => by omega)
          exact ⟨vp, vl, vc, _, rfl, h1.own hlen, h1.news.mono (by omega), (hK.trans HKr.out).trans' hk' (fun b hb hl => by omega)⟩
        have HF := Lib.hid hfin
        clear hfin hI hk hbr hbres
        go_wp2_with fail
        refine bodyPost_ret (v := tv k n t vp vl vc) (by simp [results, Try.results63, go_sem, r0, r1, r2, r3]) rfl ?_
        refine HF.out _ ?_
        have h0 := Keeps.refl (fun b => b = w.heap.size ∨ b = w.heap.size + 1) wr
        exact ((((h0.setCell (p := ⟨w.heap.size, 3, none⟩) (fun _ => .inl rfl) _).setCell (p := ⟨w.heap.size + 1, 0, none⟩) (fun _ => .inr rfl) _).setCell (p := ⟨w.heap.size + 1, 1, none⟩) (fun _ => .inr rfl) _).setCell (p := ⟨w.heap.size + 1, 2, none⟩) (fun _ => .inr rfl) _).setCell (p := ⟨w.heap.size + 1, 3, none⟩) (fun _ => .inr rfl) _
end Go.Proofs.Ytnphhibfiklfjaa

/-!
  espalierref4.Eq: its walk.
-/
namespace Go.Proofs.Ytnphhibfiklfjaa

open Go.RowKit

set_option maxRecDepth 100000 in
set_option maxHeartbeats 1600000 in
theorem Eq_any : ∀ (N : Nat) (k k' : ByteArray) (n n' : Int) (t t' : ByteArray) (c c' : Fo) (A A' : Nat → Prop) (cp cp' : Option Addr) (cl cc cl' cc' : Nat) (w : World), c.nodes < N → Tv w A k t c cp cl cc → Tv w A' k' t' c' cp' cl' cc' →
   Calls Try.prog 17 #[tv k n t cp cl cc, tv k' n' t' cp' cl' cc'] w fun e w' => e = .returned (.bool (eqB (one k n t c) (one k' n' t' c'))) ∧ Keeps (fun _ => False) w w' := by
  intro N
  induction N with
  | zero => intros; omega
  | succ N ih =>
    intro k k' n n' t t' c c' A A' cp cp' cl cc cl' cc' w hN h h'
    obtain ⟨w1, hw1⟩ : ∃ w1, w1 = w.alloc (.cells (four k n t cp cl cc) T) := ⟨_, rfl⟩
    obtain ⟨w2, hw2⟩ : ∃ w2, w2 = w1.alloc (.cells (four k' n' t' cp' cl' cc') T) := ⟨_, rfl⟩
    have hK1 : Keeps (fun _ => False) w w1 := by rw [hw1]; exact (Keeps.refl _ w).alloc _
    have hK2 : Keeps (fun _ => False) w1 w2 := by rw [hw2]; exact (Keeps.refl _ w1).alloc _
    have hs1 : w1.heap.size = w.heap.size + 1 := by rw [hw1]; simp
    have hs2 : w2.heap.size = w.heap.size + 1 + 1 := by rw [hw2]; simp [hs1]
    have hn1 : NodeAt w1 A w.heap.size 0 k n t c cp cl cc := by rw [hw1]; exact h.boxed _
    have hn := hn1.keeps hK2 (fun _ _ h => h) (by omega) (fun h => h)
    have hn' : NodeAt w2 A' (w.heap.size + 1) 0 k' n' t' c' cp' cl' cc' := by rw [hw2, ← hs1]; exact (h'.keeps hK1 (fun _ _ h => h)).boxed _
    have hK := hK1.trans hK2
    have HW := Lib.hid hw2
    have HW1 := Lib.hid hw1
    clear hw1 hw2 hn1
    have c0 := hn.c0
    have c1 := hn.c1
    have c2 := hn.c2
    have c3 := hn.c3
    have d0 := hn'.c0
    have d1 := hn'.c1
    have d2 := hn'.c2
    have d3 := hn'.c3
    have hlc := hn.lc
    have hcm := hn.cm
    have hlc' := hn'.lc
    have hcm' := hn'.cm
    have hne : ∀ w', (one k n t c ≠ one k' n' t' c') → Keeps (fun _ => False) w2 w' → (Ending.returned (.bool false) = .returned (.bool (eqB (one k n t c) (one k' n' t' c'))) ∧ Keeps (fun _ => False) w w') := fun w' h h' => ⟨by rw [eqB_false.2 h], hK.trans h'⟩
    by_cases hk : k = k'
    · subst hk
      by_cases hnn : n = n'
      · subst hnn
        by_cases ht : t = t'
        · subst ht
          by_cases hl : cl = cl'
          · subst hl
            clear hne
            go_enter Try.func17, Try.ntmps17
            go_wp2_with fail
            rw [← HW1.out, ← HW.out]
            go_loopg [5] cl (fun m i W => ∃ j : Nat, j + m = cl ∧ i = .int .i64 j ∧ (c = c' ↔ c.drop j = c'.drop j) ∧ Keeps (fun _ => False) w2 W)
            case atStart => exact ⟨0, by omega, rfl, Iff.rfl, Keeps.refl _ _⟩
            case round =>
              obtain ⟨j, hjm, rfl, hiff, hkr⟩ := hrel
              have hsr := hkr.size
              have hnr := hn.keeps hkr (fun _ _ h => h) (by omega) (fun h => h)
              have hnr' := hn'.keeps hkr (fun _ _ h => h) (by omega) (fun h => h)
              have k3 := hnr.c3
              have e3 := hnr'.c3
              have HI := Lib.hid hiff
              have HJ := Lib.hid hjm
              by_cases hlt : j < cl
              · obtain ⟨kb, ko, rfl, _, hkb⟩ := hnr.kids.hasAddr (by omega)
                obtain ⟨kb', ko', rfl, _, hkb'⟩ := hnr'.kids.hasAddr (by omega)
                obtain ⟨k1, n1, t1, s1, r1, hdr⟩ := Fo.drop_lt j c (by rw [hn.kids.len]; exact hlt)
                obtain ⟨k2, n2, t2, s2, r2, hdr'⟩ := Fo.drop_lt j c' (by rw [hn'.kids.len]; exact hlt)
                obtain ⟨cp1, cl1, cc1, hn1⟩ := hnr.kids.at_ j hdr hlt
                obtain ⟨cp2, cl2, cc2, hn2⟩ := hnr'.kids.at_ j hdr' hlt
                have hcN : s1.nodes < N := by
                  have h1 := Fo.nodes_drop j c
                  rw [hdr] at h1
                  simp only [Fo.nodes] at h1
                  omega
                have HD := Lib.hid hdr
                have HD' := Lib.hid hdr'
                clear hdr hdr' hjm hiff c0 c1 c2 c3 d0 d1 d2 d3
                have hih := ih k1 k2 n1 n2 t1 t2 s1 s2 A A' cp1 cp2 cl1 cc1 cl2 cc2 wr.drew hcN (hn1.tv.keeps (S := fun _ => False) (Keeps.refl _ wr).drew (fun _ _ h => h)) (hn2.tv.keeps (S := fun _ => False) (Keeps.refl _ wr).drew (fun _ _ h => h))
                have a0 := hn1.c0
                have a1 := hn1.c1
                have a2 := hn1.c2
                have a3 := hn1.c3
                have b0 := hn2.c0
                have b1 := hn2.c1
                have b2 := hn2.c2
                have b3 := hn2.c3
                have HK := Lib.hid hkr
                clear hkr ih hn1 hn2 hnr hnr'
                go_wp2_with fail
                go_still_tail 10, (by kernel_rfl)
                change wpList _ _ _ _ _ wr.drew
                go_wp2_with fail
                refine hih.mono ?_
                clear hih
                rintro e W ⟨rfl, hk⟩
                have hkW := HK.out.trans ((Keeps.refl _ wr).drew.trans hk)
                cases hbb : eqB (one k1 n1 t1 s1) (one k2 n2 t2 s2) with
                | true =>
                  have HB := Lib.hid (eqB_true.1 hbb)
                  clear hbb
                  go_wp2_with fail
                  go_roundg (gk - 1)
                  case measure => have := HJ.out; omega
                  case rel => exact ⟨j + 1, by have := HJ.out; omega, by go_num, Fo.drop_eq_step HD.out HD'.out HI.out HB.out, hkW⟩
                | false =>
                  have HB := Lib.hid (eqB_false.1 hbb)
                  clear hbb
                  go_wp2_with fail
                  go_ret
                  refine ⟨?_, hK.trans hkW⟩
                  have hne2 : one k n t c ≠ one k n t c' := by
                    intro h
                    rw [one_inj] at h
                    have h2 := h.2.2.2
                    rw [HI.out, HD.out, HD'.out] at h2
                    injection h2 with e1 e2 e3 e4
                    exact HB.out (one_inj.2 ⟨e1, e2, e3, e4⟩)
                  rw [eqB_false.2 hne2]
                  rfl
              · have hjl : cl ≤ j := by omega
                have HX : Hid (c = c') := by
                  refine HI.out.2 ?_
                  rw [Fo.drop_len_le (by rw [hn.kids.len]; exact hjl), Fo.drop_len_le (by rw [hn'.kids.len]; exact hjl)]
                clear hiff c0 c1 c2 c3 d0 d1 d2 d3
                go_wp2_with fail
                go_ret
                refine ⟨?_, hK.trans hkr⟩
                rw [HX.out, eqB_self]
                rfl
          · have hc : one k n t c ≠ one k n t c' := fun h => hl (by
              rw [one_inj] at h
              rw [← hn.kids.len, ← hn'.kids.len, h.2.2.2])
            go_enter Try.func17, Try.ntmps17
            go_wp2_with fail
            rw [← HW1.out, ← HW.out]
            go_ret
            exact hne _ hc (Keeps.refl _ _)
        · have hc : one k n t c ≠ one k n t' c' := fun h => ht (one_inj.1 h).2.2.1
          have h1 := txt_ne ht
          go_enter Try.func17, Try.ntmps17
          go_wp2_with fail
          rw [← HW1.out, ← HW.out]
          go_ret
          exact hne _ hc (Keeps.refl _ _)
      · have hc : one k n t c ≠ one k n' t' c' := fun h => hnn (one_inj.1 h).2.1
        have h1 := num_ne hnn
        go_enter Try.func17, Try.ntmps17
        go_wp2_with fail
        rw [← HW1.out, ← HW.out]
        go_ret
        exact hne _ hc (Keeps.refl _ _)
    · have hc : one k n t c ≠ one k' n' t' c' := fun h => hk (one_inj.1 h).1
      have h1 := txt_ne hk
      go_enter Try.func17, Try.ntmps17
      go_wp2_with fail
      rw [← HW1.out, ← HW.out]
      go_ret
      exact hne _ hc (Keeps.refl _ _)
end Go.Proofs.Ytnphhibfiklfjaa

/-!
  espalierlaw4.EqPath, leaf: their walks.
-/
namespace Go.Proofs.Ytnphhibfiklfjaa

open Go.RowKit

set_option maxRecDepth 100000 in
set_option maxHeartbeats 800000 in
theorem EqPath_any (xs ys : List Int) (p q : Option Addr) (n m c c' : Nat) (A A' : Nat → Prop) (w : World) (h : Ints w A xs p n) (h' : Ints w A' ys q m) :
    Calls Try.prog 16 #[.slice p n c, .slice q m c'] w fun e w' => e = .returned (.bool (decide (xs = ys))) ∧ Keeps (fun _ => False) w w' := by
  have hl := h.len
  have hl' := h'.len
  by_cases hn : n = m
  · subst hn
    have hle := h.le
    go_enter Try.func16, Try.ntmps16
    go_wp2_with fail
    go_loopg [5] n (fun m i W => ∃ j : Nat, j + m = n ∧ i = .int .i64 j ∧ (xs = ys ↔ xs.drop j = ys.drop j) ∧ Keeps (fun _ => False) w W)
    case atStart => exact ⟨0, by omega, rfl, Iff.rfl, Keeps.refl _ _⟩
    case round =>
      obtain ⟨j, hjm, rfl, hiff, hkr⟩ := hrel
      have hr := h.keeps hkr (fun _ _ h => h)
      have hr' := h'.keeps hkr (fun _ _ h => h)
      have HI := Lib.hid hiff
      have HJ := Lib.hid hjm
      have HK := Lib.hid hkr
      by_cases hlt : j < n
      · obtain ⟨x, r, hd, hd1, b, o, rfl, _, hb⟩ := hr.dropLt hlt
        obtain ⟨y, r', hd', hd1', b', o', rfl, _, hb'⟩ := hr'.dropLt hlt
        have c0 := hr.at_ hd
        have c0' := hr'.at_ hd'
        have HD := Lib.hid hd
        have HD' := Lib.hid hd'
        have HE := Lib.hid hd1
        have HE' := Lib.hid hd1'
        have hi0' : (0 : Int) ≤ (j : Int) := Int.natCast_nonneg _
        have hi1 : (j : Int) < (n : Int) := by omega
        clear hd hd' hd1 hd1' hiff hjm hkr hr hr' h h' hl hl'
        by_cases hxy : x = y
        · subst hxy
          go_wp2_with fail
          go_quiet (fail)
          go_wp2_with fail
          go_roundg (gk - 1)
          case measure => have := HJ.out; omega
          case rel => exact ⟨j + 1, by have := HJ.out; omega, by go_num, by rw [HE.out, HE'.out, HI.out, HD.out, HD'.out]; simp, HK.out.drewN _⟩
        · have h1 := num_ne hxy
          go_wp2_with fail
          go_quiet (fail)
          go_wp2_with fail
          go_ret
          refine ⟨?_, HK.out.drewN _⟩
          have : xs ≠ ys := by rw [Ne, HI.out, HD.out, HD'.out]; simp [hxy]
          simp [this]
      · have HX : Hid (xs = ys) := by
          refine HI.out.2 ?_
          rw [List.drop_eq_nil_of_le (by omega), List.drop_eq_nil_of_le (by omega)]
        clear hiff hjm hkr hr hr' h h' hl hl'
        go_wp2_with fail
        go_ret
        refine ⟨?_, HK.out⟩
        simp [HX.out]
  · have hne : xs ≠ ys := fun e => hn (by rw [← hl, ← hl', e])
    go_enter Try.func16, Try.ntmps16
    go_wp2_with fail
    go_ret
    exact ⟨by simp [hne], Keeps.refl _ _⟩

theorem leaf_any (k : ByteArray) (w : World) :
    Calls Try.prog 32 #[.string k] w fun e w' => e = .returned (tv k 0 e0 none 0 0) ∧ Keeps (fun _ => False) w w' := by
  go_enter Try.func32, Try.ntmps32
  go_wp2_with fail
  refine bodyPost_ret (v := tv k 0 e0 none 0 0) (by simp [results, Try.results32, go_sem]) rfl ?_
  exact ⟨rfl, (Keeps.refl _ w).alloc _⟩
end Go.Proofs.Ytnphhibfiklfjaa

/-!
  Lists of lists, each in a block of its own: what growing one and writing one leave.
-/
namespace Go.Proofs.Ytnphhibfiklfjaa

open Go.RowKit

/-- lv: a list of the lists vs (whose type is te); each of them: so many elements, these values (of type e, s cells each). -/
structure Lists (D te e s : Nat) (W : World) (lv : Value) (vs : List Value) (cs : List (Nat × List Value)) : Prop where
  row : W.ownsRow D te 1 lv vs.length vs
  len : cs.length = vs.length
  rows : ∀ (i : Nat) (v : Value) (c : Nat × List Value), vs[i]? = some v → cs[i]? = some c → W.ownsRow D e s v c.1 c.2
  apart : ∀ (i j : Nat) (v v' : Value) (b : Nat), vs[i]? = some v → vs[j]? = some v' → v.ownBlock = some b → v'.ownBlock = some b → i = j
section

variable {D te e s : Nat} {W W1 : World} {lv : Value} {vs : List Value} {cs : List (Nat × List Value)}

/-- Their blocks. -/
def Lists.Blk (lv : Value) (vs : List Value) (b : Nat) : Prop := lv.ownBlock = some b ∨ ∃ v ∈ vs, v.ownBlock = some b
theorem Lists.at_ (h : Lists D te e s W lv vs cs) {i : Nat} (hi : i < vs.length) : ∃ v c, vs[i]? = some v ∧ cs[i]? = some c ∧ W.ownsRow D e s v c.1 c.2 := by
  have h1 := List.getElem?_eq_getElem hi
  have h2 : cs[i]? = some (cs[i]'(by rw [h.len]; exact hi)) := List.getElem?_eq_getElem _
  exact ⟨_, _, h1, h2, h.rows i _ _ h1 h2⟩
theorem Lists.lo (h : Lists D te e s W lv vs cs) {b : Nat} (hb : Lists.Blk lv vs b) : D ≤ b ∧ b < W.heap.size := by
  rcases hb with hb | ⟨v, hv, hb⟩
  · exact h.row.lt b hb
  · obtain ⟨i, hi⟩ := List.getElem?_of_mem hv
    obtain ⟨v', c, h1, _, h3⟩ := h.at_ (List.getElem?_eq_some_iff.1 hi).1
    rw [hi] at h1
    simp only [Option.some.injEq] at h1
    subst h1
    exact h3.lt b hb
theorem Lists.same (h : Lists D te e s W lv vs cs) (hb : ∀ b, Lists.Blk lv vs b → W1.heap[b]? = W.heap[b]?) : Lists D te e s W1 lv vs cs :=
  ⟨ownsRow_same h.row (fun b hm => hb b (.inl (by simpa using hm))), h.len, fun i v c hv hc => ownsRow_same (h.rows i v c hv hc) (fun b hm => hb b (.inr ⟨v, List.mem_of_getElem? hv, by simpa using hm⟩)), h.apart⟩
theorem Lists.keeps {S : Nat → Prop} (h : Lists D te e s W lv vs cs) (hk : Keeps S W W1) (hS : ∀ b, S b → ¬ Lists.Blk lv vs b) : Lists D te e s W1 lv vs cs :=
  h.same fun b hb => hk.block b (h.lo hb).2 (fun hs => hS b hs hb)
theorem Lists.ne_row (h : Lists D te e s W lv vs cs) (hte : te ≠ e) {i b : Nat} {v : Value} (hv : vs[i]? = some v) (hb : v.ownBlock = some b) : lv.ownBlock ≠ some b := by
  obtain ⟨v', c, h1, _, h3⟩ := h.at_ (List.getElem?_eq_some_iff.1 hv).1
  rw [hv] at h1
  simp only [Option.some.injEq] at h1
  subst h1
  exact rows_ne h3 h.row (fun e => hte e.symm) hb
/-- The i-th one is laid anew at what a grown or written row is, and the place that holds it is written. -/
theorem Lists.put (h : Lists D te e s W lv vs cs) (hte : te ≠ e) {i gl cl : Nat} (hlv : lv = .slice (some ⟨gl, 0, none⟩) vs.length cl) {v v' : Value} {c c' : Nat × List Value} (hv : vs[i]? = some v) (hc : cs[i]? = some c) (hk : Keeps (fun b => v.ownBlock = some b) W W1)
    (hr : W1.ownsRow D e s v' c'.1 c'.2) (hat : ∀ b, v'.ownBlock = some b → v.ownBlock = some b ∨ W.heap.size ≤ b) :
    Lists D te e s (W1.setCell ⟨gl, i, none⟩ v') lv (vs.set i v') (cs.set i c') ∧ Keeps (Lists.Blk lv vs) W (W1.setCell ⟨gl, i, none⟩ v') ∧ (∀ b, Lists.Blk lv (vs.set i v') b → Lists.Blk lv vs b ∨ W.heap.size ≤ b) := by
  have hil : i < vs.length := (List.getElem?_eq_some_iff.1 hv).1
  have hgl := h.row.lt gl (by rw [hlv]; rfl)
  have hnl : v.ownBlock ≠ some gl := fun hb => h.ne_row hte hv hb (by rw [hlv]; rfl)
  have hnl' : v'.ownBlock ≠ some gl := fun hb => by
    rcases hat gl hb with h1 | h1
    · exact hnl h1
    · omega
  have hk2 : Keeps (fun b => b = gl) W1 (W1.setCell ⟨gl, i, none⟩ v') := (Keeps.refl (fun b => b = gl) W1).setCell (p := ⟨gl, i, none⟩) (fun _ => rfl) _
  have hset : ∀ (j : Nat) (u : Value), (vs.set i v')[j]? = some u → (j = i ∧ u = v') ∨ (j ≠ i ∧ vs[j]? = some u) := fun j u hu => by
    by_cases hj : j = i
    · subst hj
      rw [List.getElem?_set_self hil] at hu
      exact .inl ⟨rfl, by simpa using hu.symm⟩
    · rw [List.getElem?_set_ne (fun e => hj e.symm)] at hu
      exact .inr ⟨hj, hu⟩
  have hrow1 : W1.ownsRow D te 1 lv vs.length vs := ownsRow_same h.row (fun b hm => by
    have hb : lv.ownBlock = some b := by simpa using hm
    exact hk.block b (h.row.lt b hb).2 (fun hvb => h.ne_row hte hv hvb hb))
  have hblk : ∀ (j : Nat) (u : Value) (b : Nat), vs[j]? = some u → u.ownBlock = some b → D ≤ b ∧ b < W.heap.size := fun j u b hu hb => h.lo (.inr ⟨u, List.mem_of_getElem? hu, hb⟩)
  refine ⟨⟨?_, by simp [h.len], ?_, ?_⟩, ?_, ?_⟩
  · rw [List.length_set]
    subst hlv
    exact ownsRow_set hrow1 i hil v'
  · intro j u d hu hd
    rcases hset j u hu with ⟨rfl, rfl⟩ | ⟨hj, hu⟩
    · rw [List.getElem?_set_self (by rw [h.len]; exact hil)] at hd
      simp only [Option.some.injEq] at hd
      subst hd
      exact ownsRow_same hr (fun b hm => by
        have hb : u.ownBlock = some b := by simpa using hm
        exact hk2.block b (hr.lt b hb).2 (fun e => hnl' (e ▸ hb)))
    · rw [List.getElem?_set_ne (fun e => hj e.symm)] at hd
      refine ownsRow_same (h.rows j u d hu hd) (fun b hm => ?_)
      have hb : u.ownBlock = some b := by simpa using hm
      have h2 := hblk j u b hu hb
      rw [hk2.block b (by have := hk.size; omega) (fun e => h.ne_row hte hu hb (by rw [hlv, e]; rfl)), hk.block b h2.2 (fun e => hj (h.apart j i u v b hu hv hb e))]
  · intro j1 j2 u1 u2 b h1 h2 hb1 hb2
    rcases hset j1 u1 h1 with ⟨rfl, rfl⟩ | ⟨hj1, g1⟩
    · rcases hset j2 u2 h2 with ⟨rfl, rfl⟩ | ⟨hj2, g2⟩
      · rfl
      · rcases hat b hb1 with h3 | h3
        · exact h.apart _ _ v u2 b hv g2 h3 hb2
        · have := (hblk j2 u2 b g2 hb2).2; omega
    · rcases hset j2 u2 h2 with ⟨rfl, rfl⟩ | ⟨hj2, g2⟩
      · rcases hat b hb2 with h3 | h3
        · exact h.apart _ _ u1 v b g1 hv hb1 h3
        · have := (hblk j1 u1 b g1 hb1).2; omega
      · exact h.apart _ _ u1 u2 b g1 g2 hb1 hb2
  · refine (hk.mono (S' := Lists.Blk lv vs) (fun b hb _ => .inr ⟨v, List.mem_of_getElem? hv, hb⟩)).trans' hk2 (fun b hb _ => .inl (by rw [hlv, hb]; rfl))
  · rintro b (hb | ⟨u, hu, hb⟩)
    · exact .inl (.inl hb)
    · obtain ⟨j, hj⟩ := List.getElem?_of_mem hu
      rcases hset j u hj with ⟨rfl, rfl⟩ | ⟨_, hu⟩
      · rcases hat b hb with h3 | h3
        · exact .inl (.inr ⟨v, List.mem_of_getElem? hv, h3⟩)
        · exact .inr h3
      · exact .inl (.inr ⟨u, List.mem_of_getElem? hu, hb⟩)
/-- The i-th one is written in place. -/
theorem Lists.write (h : Lists D te e s W lv vs cs) (hte : te ≠ e) {i : Nat} {v : Value} {c c' : Nat × List Value} (hv : vs[i]? = some v) (hc : cs[i]? = some c) (hk : Keeps (fun b => v.ownBlock = some b) W W1)
    (hr : W1.ownsRow D e s v c'.1 c'.2) : Lists D te e s W1 lv vs (cs.set i c') := by
  have hil : i < vs.length := (List.getElem?_eq_some_iff.1 hv).1
  refine ⟨ownsRow_same h.row (fun b hm => ?_), by simp [h.len], fun j u d hu hd => ?_, h.apart⟩
  · have hb : lv.ownBlock = some b := by simpa using hm
    exact hk.block b (h.row.lt b hb).2 (fun hvb => h.ne_row hte hv hvb hb)
  · by_cases hj : j = i
    · subst hj
      rw [List.getElem?_set_self (by rw [h.len]; exact hil)] at hd
      simp only [Option.some.injEq] at hd
      subst hd
      rw [hv] at hu
      simp only [Option.some.injEq] at hu
      subst hu
      exact hr
    · rw [List.getElem?_set_ne (fun e => hj e.symm)] at hd
      refine ownsRow_same (h.rows j u d hu hd) (fun b hm => ?_)
      have hb : u.ownBlock = some b := by simpa using hm
      exact hk.block b (h.lo (.inr ⟨u, List.mem_of_getElem? hu, hb⟩)).2 (fun e => hj (h.apart j i u v b hu hv hb e))
end

end Go.Proofs.Ytnphhibfiklfjaa
