/-
  Merged texts: XMatM, XMatN.
-/
import Derived.Test.YtccoihmibkpedaaMatA

import Derived.Test.YtccoihmibkpedaaPkC

import Derived.Deep.RegionLaw

import Derived.Deep.Cut

import Derived.Deep.AppendLies

set_option linter.unusedVariables false

set_option linter.unusedSimpArgs false

/-!
  match.May, match.Names: their walks.
-/
namespace Go.Proofs.Ytccoihmibkpedaa

open Go.RowKit

theorem NodeAt.next {w w1 : World} {A : Nat → Prop} {b o k n t c cp cl cc} (h : NodeAt w A b o k n t c cp cl cc) (hk : Keeps (fun _ => False) w w1) (hb : b < w.heap.size) : NodeAt w1 A b o k n t c cp cl cc := h.keeps hk (fun _ _ h => h) hb (fun h => h)
theorem nget_nadd (acc : List Note) (x : Nd) (nm : ByteArray) : nget (nadd acc x) nm = if varF x.k = some nm then some ((nget acc nm).getD (x.n, x.t)) else nget acc nm := by
  unfold nadd
  cases hv : varF x.k with
  | none => simp
  | some a =>
    simp only [Option.some.injEq]
    by_cases h : (nget acc a).isSome
    · rw [if_pos h]
      by_cases he : a = nm
      · subst he
        rw [if_pos rfl]
        cases hg : nget acc a with
        | none => rw [hg] at h; simp at h
        | some e => rfl
      · rw [if_neg he]
    · rw [if_neg h]
      have h' : nget acc a = none := by cases hg : nget acc a with
        | none => rfl
        | some e => rw [hg] at h; simp at h
      by_cases he : a = nm
      · subst he
        rw [if_pos rfl, h']
        unfold nget at h' ⊢
        rw [List.find?_append]
        simp only [Option.map_eq_none_iff] at h'
        rw [h']
        simp
      · rw [if_neg he]
        unfold nget
        rw [List.find?_append]
        simp [he]
abbrev noteV (e : Int × ByteArray) : Value := .agg #[.int .i64 e.1, .string e.2]
def noteM (L : List Note) (nm : ByteArray) : Option Value := (nget L nm).map noteV
theorem noteM_put {l : List Nd} {x : Nd} {nm : ByteArray} (hv : varF x.k = some nm) (h : ∀ e, nget (nts l) nm = some e → e = (x.n, x.t)) : putM (noteM (nts l)) nm (noteV (x.n, x.t)) = noteM (nts (l ++ [x])) := by
  funext a
  rw [nts_snoc]
  unfold putM noteM
  rw [nget_nadd, hv]
  by_cases ha : a = nm
  · subst ha
    rw [if_pos rfl, if_pos rfl]
    cases hg : nget (nts l) a with
    | none => rfl
    | some e => rw [h e hg]; rfl
  · rw [if_neg ha, if_neg (fun e => ha (by simpa using e.symm))]
theorem noteM_skip {l : List Nd} {x : Nd} (hv : varF x.k = none) : noteM (nts (l ++ [x])) = noteM (nts l) := by
  rw [nts_snoc, nadd, hv]
def MayJ (Kb Mb : Nat) (l : List Nd) (W : World) : Prop := W.heap[Kb]? = some (.cells #[.map (some Mb)] 117 (0, 0)) ∧ MapAt W Mb (noteM (nts l)) l.length
theorem zeroStands (w : World) : (zeroValue 119).run Try.prog w = .ok (.agg #[.int .i64 0, .string ByteArray.empty]) w := by kernel_rfl
theorem nts_size {l : List Nd} {nm : ByteArray} {e : Int × ByteArray} (h : nget (nts l) nm = some e) : ∃ x ∈ l, varF x.k = some nm ∧ e = (x.n, x.t) := by
  have key : ∀ (l : List Nd) (acc : List Note), nget (l.foldl nadd acc) nm = some e → nget acc nm = some e ∨ ∃ x ∈ l, varF x.k = some nm ∧ e = (x.n, x.t) := by
    intro l
    induction l with
    | nil => intro acc h; exact .inl h
    | cons x l ih =>
      intro acc h
      rcases ih (nadd acc x) h with h1 | ⟨y, hy, r⟩
      · rw [nget_nadd] at h1
        by_cases hv : varF x.k = some nm
        · rw [if_pos hv] at h1
          cases hg : nget acc nm with
          | none => rw [hg] at h1; exact .inr ⟨x, by simp, hv, by simpa using h1.symm⟩
          | some e' => rw [hg] at h1; exact .inl (by simpa using h1)
        · rw [if_neg hv] at h1; exact .inl h1
      · exact .inr ⟨y, by simp [hy], r⟩
  rcases key l [] h with h1 | h1
  · simp [nget] at h1
  · exact h1
set_option maxRecDepth 100000 in
set_option maxHeartbeats 1600000 in
theorem pmay1_any (A : Nat → Prop) (Kb Mb : Nat) (hKM : Kb ≠ Mb) (hA : ∀ b, A b → b ≠ Mb) (l : List Nd) (W : World) (b o : Nat) (k : ByteArray) (n : Int) (t : ByteArray) (c : Fo) (cp : Option Addr) (cl cc : Nat) (hl : l.length < 1024) (hJ : MayJ Kb Mb l W) (hb : A b) (hbs : b < W.heap.size) (hn : NodeAt W A b o k n t c cp cl cc) :
    Calls Try.prog 70 #[.pointer (some ⟨b, o, none⟩), .pointer (some ⟨Kb, 0, none⟩)] W fun e W' => e = .returned (.bool (fMay l ⟨k, n, t, c⟩)) ∧ (fMay l ⟨k, n, t, c⟩ = true → MayJ Kb Mb (l ++ [⟨k, n, t, c⟩]) W') ∧ Keeps (fun b => b = Mb) W W' := by
  have hvar := variable_any A k n t c b o cp cl cc W hn
  unfold VarR at hvar
  have HV : Hid (fMay l ⟨k, n, t, c⟩ = fMay l ⟨k, n, t, c⟩) := Lib.hid rfl
  have HN := Lib.hid hn
  have HJ := Lib.hid hJ
  have hks := hn.size.2
  cases hv : varF k with
  | none =>
    rw [hv] at hvar
    have hv' := Lib.hid hv
    clear hv hn hJ
    go_enter Try.func70, Try.ntmps70
    go_wp2_with fail
    refine hvar.mono ?_
    clear hvar
    rintro e W1 ⟨a, rfl, _, hk⟩
    go_wp2_with fail
    go_ret
    refine ⟨by rw [fMay]; simp only; rw [hv'.out]; rfl, fun _ => ⟨hk.heap HJ.out.1, ?_⟩, hk.mono fun _ h _ => h.elim⟩
    rw [noteM_skip hv'.out]
    exact (HJ.out.2.keeps hk (fun h => h)).more (by simp)
  | some nm =>
    rw [hv] at hvar
    have hnm := varF_size hv hks
    have hv' := Lib.hid hv
    clear hv hn hJ
    go_enter Try.func70, Try.ntmps70
    go_wp2_with fail
    refine hvar.mono ?_
    clear hvar
    rintro e W1 ⟨a, rfl, ha, hk⟩
    obtain rfl := ha nm rfl
    clear ha
    have hn1 := HN.out.keeps hk (fun _ _ h => h) hbs (fun h => h)
    have c1 := hn1.c1
    have c2 := hn1.c2
    have HK := Lib.hid hk
    have hb1 : b < W1.heap.size := Nat.lt_of_lt_of_le hbs hk.size
    clear hk
    go_wp2_with fail
    go_region
    obtain ⟨sb, hsb⟩ : ∃ s, s = W1.heap.size := ⟨_, rfl⟩
    obtain ⟨W2, hW2⟩ : ∃ W2, W2 = (W1.alloc (.cells #[.int .i64 n, .string t] 119)).drew := ⟨_, rfl⟩
    have hk2 : Keeps (fun _ => False) W1 W2 := by rw [hW2]; exact ((Keeps.refl _ W1).alloc _).drew
    have hs2 : W2.heap[sb]? = some (.cells #[.int .i64 n, .string t] 119 (0, 0)) := by rw [hW2, hsb]; exact heap_alloc_new _ _
    have hs12 : W2.heap.size = sb + 1 := by rw [hW2, hsb]; simp
    have HS12 := Lib.hid hs12
    rw [← hW2, ← hsb]
    have hK12 := HK.out.trans hk2
    have hKb2 := hK12.heap HJ.out.1
    have hM2 := HJ.out.2.keeps hK12 (fun h => h)
    have k0 : W2.cell? ⟨Kb, 0, none⟩ = some (.map (some Mb)) := by simp [World.cell?, hKb2]
    have hn2 := hn1.next hk2 hb1
    have hMbl := hM2.lt
    have hs1le := hk2.size
    obtain ⟨s0, s1⟩ : W2.cell? ⟨sb, 0, none⟩ = some (.int .i64 n) ∧ W2.cell? ⟨sb, 1, none⟩ = some (.string t) := by simp [World.cell?, hs2]
    have hM3 : ∀ v, MapAt (W2.alloc (.cells v 119)) Mb (noteM (nts l)) l.length := fun v => hM2.keeps ((Keeps.refl (fun _ => False) W2).alloc _) (fun h => h)
    have hMsb : Mb ≠ sb := fun e => by have := HJ.out.2.lt; have := HK.out.size; omega
    have hz := zeroStands W2
    have HN2 := Lib.hid hn2
    have HS2 := Lib.hid hs2
    have HK12 := Lib.hid hK12
    have HKB2 := Lib.hid hKb2
    have hsbl : sb < W2.heap.size := heap_lt hs2
    have hKs : Kb < W2.heap.size := heap_lt hKb2
    have hlook : ∀ v, noteM (nts l) a = v → (Instr.lookup 117 (.map (some Mb)) (.string a) true).run Try.prog W2 = .ok (.tuple #[v.getD (.agg #[.int .i64 0, .string ByteArray.empty]), .bool v.isSome]) W2 := fun v hv => by
      have := (hM2.look (t := 117) Try.underlying117 hz (nm := a) hnm).1
      rw [hv] at this
      exact this
    have HM3 := Lib.hid hM3
    have HLK := Lib.hid hlook
    clear hM2 hM3 hlook hn2 hs2 hK12 hKb2 hW2 hsb hk2 hn1 c1 c2 hs12
    have hfin : ∀ (old : Array Value) (W4 : World), MapAt W4 Mb (putM (noteM (nts l)) a (noteV (n, t))) (l.length + 1) → Keeps (fun c => c = Mb) (W2.alloc (.cells old 119)) W4 →
        W4.heap[sb]? = some (.cells #[.int .i64 n, .string t] 119 (0, 0)) ∧ W4.heap[W2.heap.size]? = some (.cells old 119 (0, 0)) ∧ NodeAt W4 A b o k n t c cp cl cc ∧ W4.heap[Kb]? = some (.cells #[.map (some Mb)] 117 (0, 0)) ∧ Keeps (fun b => b = Mb) W W4 := by
      intro old W4 _ hk4
      have ha : Keeps (fun _ => False) W2 (W2.alloc (.cells old 119)) := (Keeps.refl _ _).alloc _
      have h24 : Keeps (fun c => c = Mb) W2 W4 := (ha.mono fun _ h _ => h.elim).trans hk4
      refine ⟨(h24.block _ hsbl (fun e => hMsb e.symm)).trans HS2.out, (hk4.block _ (by simp) (fun e => by omega)).trans (heap_alloc_new _ _), HN2.out.keeps h24 (fun x hx e => hA x hx e) (Nat.lt_of_lt_of_le hb1 hs1le) (hA b hb), (h24.block _ hKs hKM).trans HKB2.out, (HK12.out.mono fun _ h _ => h.elim).trans h24⟩
    cases hg : nget (nts l) a with
    | none =>
      have hlk := HLK.out none (by simp [noteM, hg])
      simp only [Option.getD_none, Option.isSome_none] at hlk
      have hm3 := HM3.out #[.int .i64 0, .string ByteArray.empty]
      have HG := Lib.hid hg
      clear hg
      go_wp2_with (at_mapUpdate; refine wpList_mapS rfl _ rfl _ _ _ 117 rfl 119 Try.underlying117 Mb l.length (noteM (nts l)) rfl hm3 (by omega) a (noteV (n, t)) rfl rfl hnm ?_; intro W4 hm4 hk4)
      obtain ⟨f1, f2, f3, f4, f5⟩ := hfin _ W4 hm4 hk4
      have hri := right_any A k n t c b o cp cl cc W4 f3
      obtain ⟨rr, hrr⟩ : ∃ r, rightF ⟨k, n, t, c⟩ = r := ⟨_, rfl⟩
      rw [hrr] at hri
      have HF : Hid (fMay l ⟨k, n, t, c⟩ = rr) := by show fMay l ⟨k, n, t, c⟩ = rr; rw [fMay]; simp only; rw [hv'.out]; simp only; rw [HG.out, hrr, Bool.and_true]
      have HM4 := Lib.hid hm4
      have HF4 := Lib.hid f4
      have HF5 := Lib.hid f5
      clear hm4 hk4 f1 f2 f3 f4 f5 hrr hlk hm3 hz k0 s0 s1 hfin
      cases rr
      all_goals
        go_wp2_with fail
        refine hri.mono ?_
        clear hri
        rintro e W5 ⟨rfl, hk5⟩
        go_wp2_with fail
        go_ret
        refine ⟨by rw [HF.out]; rfl, fun _ => ⟨hk5.heap HF4.out, ?_⟩, HF5.out.trans' hk5 (fun _ h _ => h.elim)⟩
        rw [← noteM_put (x := ⟨k, n, t, c⟩) hv'.out (fun e he => by rw [HG.out] at he; simp at he)]
        simpa using HM4.out.keeps hk5 (fun h => h)
    | some e =>
      obtain ⟨en, et⟩ := e
      have hlk := HLK.out (some (noteV (en, et))) (by simp [noteM, hg])
      simp only [Option.getD_some, Option.isSome_some] at hlk
      have hm3 := HM3.out #[.int .i64 en, .string et]
      have HG := Lib.hid hg
      clear hg
      go_wp2_with (at_mapUpdate; refine wpList_mapS rfl _ rfl _ _ _ 117 rfl 119 Try.underlying117 Mb l.length (noteM (nts l)) rfl hm3 (by omega) a (noteV (n, t)) rfl rfl hnm ?_; intro W4 hm4 hk4)
      obtain ⟨f1, f2, f3, f4, f5⟩ := hfin _ W4 hm4 hk4
      have hri := right_any A k n t c b o cp cl cc W4 f3
      obtain ⟨rr, hrr⟩ : ∃ r, rightF ⟨k, n, t, c⟩ = r := ⟨_, rfl⟩
      rw [hrr] at hri
      have HF : Hid (fMay l ⟨k, n, t, c⟩ = (rr && decide ((en, et) = (n, t)))) := by show fMay l ⟨k, n, t, c⟩ = _; rw [fMay]; simp only; rw [hv'.out]; simp only; rw [HG.out, hrr]
      have HM4 := Lib.hid hm4
      have HF1 := Lib.hid f1
      have HF2 := Lib.hid f2
      have HF4 := Lib.hid f4
      have HF5 := Lib.hid f5
      clear hm4 hk4 f1 f2 f3 f4 f5 hrr hlk hm3 hz k0 s0 s1 hfin
      cases rr with
      | false =>
        go_wp2_with fail
        refine hri.mono ?_
        clear hri
        rintro e W5 ⟨rfl, hk5⟩
        go_wp2_with fail
        go_ret
        exact ⟨by rw [HF.out]; rfl, fun h => by rw [HF.out] at h; simp at h, HF5.out.trans' hk5 (fun _ h _ => h.elim)⟩
      | true =>
        go_wp2_with fail
        refine hri.mono ?_
        clear hri
        rintro e W5 ⟨rfl, hk5⟩
        have HK5 := Lib.hid hk5
        obtain ⟨s0, s1⟩ : W5.cell? ⟨sb, 0, none⟩ = some (.int .i64 n) ∧ W5.cell? ⟨sb, 1, none⟩ = some (.string t) := by simp [World.cell?, hk5.heap HF1.out]
        obtain ⟨o0, o1⟩ : W5.cell? ⟨W2.heap.size, 0, none⟩ = some (.int .i64 en) ∧ W5.cell? ⟨W2.heap.size, 1, none⟩ = some (.string et) := by simp [World.cell?, hk5.heap HF2.out]
        clear hk5
        by_cases h1 : en = n
        · subst h1
          by_cases h2 : et = t
          · subst h2
            go_wp2_with fail
            go_ret
            refine ⟨by rw [HF.out]; simp, fun _ => ⟨HK5.out.heap HF4.out, ?_⟩, HF5.out.trans' HK5.out (fun _ h _ => h.elim)⟩
            rw [← noteM_put (x := ⟨k, en, et, c⟩) hv'.out (fun e he => by rw [HG.out] at he; simpa using he.symm)]
            simpa using HM4.out.keeps HK5.out (fun h => h)
          · have h3 := txt_ne h2
            go_wp2_with fail
            go_ret
            refine ⟨by rw [HF.out]; simp [h2], fun h => ?_, HF5.out.trans' HK5.out (fun _ h _ => h.elim)⟩
            rw [HF.out] at h
            simp [h2] at h
        · have h3 := num_nb h1
          go_wp2_with fail
          go_ret
          refine ⟨by rw [HF.out]; simp [h1], fun h => ?_, HF5.out.trans' HK5.out (fun _ h _ => h.elim)⟩
          rw [HF.out] at h
          simp [h1] at h
end Go.Proofs.Ytccoihmibkpedaa

/-!
  match.May, match.Names: their walks.
-/
namespace Go.Proofs.Ytccoihmibkpedaa

open Go.RowKit

theorem small_nodes {x : Nd} (h : x.small) : x.c.nodes < 1024 := by have := h.1; simp only [Nd.nodes] at this; omega
theorem mayF_small {x : Nd} (h : mayF x = 0) : x.small := by
  unfold mayF at h
  split at h
  · assumption
  · simp at h
set_option maxRecDepth 100000 in
set_option maxHeartbeats 800000 in
theorem pMay_any (x : Nd) (cp : Option Addr) (cl cc : Nat) (A : Nat → Prop) (w : World) (h : Tv w A x.k x.t x.c cp cl cc) :
    Calls Try.prog 28 #[tv x.k x.n x.t cp cl cc] w fun e w' => e = .returned (.int .i64 (pmayF x)) ∧ Keeps (fun _ => False) w w' := by
  have hmf : ∀ (fn : Fn) (first cap : Array Value) (w : World), (Instr.makeFunc fn first cap).run Try.prog w = .ok (.func fn first cap) w := fun _ _ _ _ => rfl
  have hmm := @run_makeMap Try.prog
  obtain ⟨W1, hW1⟩ : ∃ W1, W1 = w.alloc (.cells (four x.k x.n x.t cp cl cc) T) := ⟨_, rfl⟩
  have hK : Keeps (fun _ => False) w W1 := by rw [hW1]; exact (Keeps.refl _ w).alloc _
  have hs1 : w.heap.size < W1.heap.size := by rw [hW1]; simp
  have hb1 : W1.heap[w.heap.size]? = some (.cells (four x.k x.n x.t cp cl cc) T (0, 0)) := by rw [hW1]; exact heap_alloc_new _ _
  have hn1 : NodeAt W1 (fun b => b < W1.heap.size) w.heap.size 0 x.k x.n x.t x.c cp cl cc := by rw [hW1]; exact (h.boxed (n := x.n) T).top
  have hm := May_any x cp cl cc _ W1 (h.next hK)
  obtain ⟨b0, b1, b2, b3, _⟩ := box4 hb1
  have HW := Lib.hid hW1
  clear hW1
  obtain ⟨r, hr⟩ : ∃ r, mayF x = r := ⟨_, rfl⟩
  rw [hr] at hm
  by_cases h0 : r = 0
  · subst h0
    have hsm := mayF_small hr
    have HP : Hid (pmayF x = if (vis fMay [] x.all).2 then 0 else 41) := by show pmayF x = _; rw [pmayF, if_pos hr]
    clear hr
    go_enter Try.func28, Try.ntmps28
    go_upto_region 1 with fail
    rw [← HW.out]
    go_wp2_with fail
    refine hm.mono ?_
    clear hm b0 b1 b2 b3
    rintro e W ⟨rfl, hk⟩
    obtain ⟨W3, hW3⟩ : ∃ W3, W3 = (W.alloc (.map #[] 0)).alloc (.cells #[.map (some W.heap.size)] 117) := ⟨_, rfl⟩
    obtain ⟨Mb, hMb⟩ : ∃ b, b = W.heap.size := ⟨_, rfl⟩
    have hk3 : Keeps (fun _ => False) W W3 := by rw [hW3]; exact ((Keeps.refl _ _).alloc _).alloc _
    have hJ : MayJ (Mb + 1) Mb [] W3 := by
      refine ⟨?_, ?_⟩
      · rw [hW3, hMb]
        have := heap_alloc_new (W.alloc (.map #[] 0)) (.cells #[.map (some W.heap.size)] 117)
        simpa using this
      · rw [hW3, hMb]
        exact (MapAt.made W).keeps ((Keeps.refl (fun _ => False) (W.alloc (.map #[] 0))).alloc _) (fun h => h)
    have hK13 := hk.trans hk3
    have hWM : W1.heap.size ≤ Mb := by rw [hMb]; exact hk.size
    have ht : Tell (fun _ => True) (fun b => b < Mb) (fun b => b = Mb) (MayJ (Mb + 1) Mb) fMay 70 #[.pointer (some ⟨Mb + 1, 0, none⟩)] :=
      ⟨fun args w => by kernel_rfl, fun b h1 h2 => by omega, fun l W b o k n t c cp cl cc _ hl _ hJ hb hbs hn => pmay1_any (fun b => b < Mb) (Mb + 1) Mb (by omega) (fun b hb => by omega) l W b o k n t c cp cl cc hl hJ hb hbs hn⟩
    have hb3 : w.heap.size < W3.heap.size := by have := hK13.size; omega
    have hn3 : NodeAt W3 (fun b => b < Mb) w.heap.size 0 x.k x.n x.t x.c cp cl cc := (hn1.next hK13 hs1).mono (fun b hb => by omega)
    have he := each_any _ _ _ _ _ _ _ ht (x.c.nodes + 1) x.k x.n x.t x.c w.heap.size 0 cp cl cc [] W3 (by omega) (fun _ _ => trivial) (by have := small_nodes hsm; simpa using this) rfl hJ (by show w.heap.size < Mb; omega) hb3 hn3
    unfold EachT at he
    obtain ⟨v, hv⟩ : ∃ v, (vis fMay [] (Nd.all ⟨x.k, x.n, x.t, x.c⟩)).2 = v := ⟨_, rfl⟩
    rw [hv] at he
    have HV : Hid ((vis fMay [] x.all).2 = v) := hv
    have HW3 := Lib.hid hW3
    have HMB := Lib.hid hMb
    have HKf := Lib.hid (hK.trans hK13)
    have hMw : w.heap.size < Mb := by omega
    clear hv hW3 hMb hJ ht hn3 hK13 hk3 hk hn1
    cases v
    all_goals
      go_wp2_with fail
      rw [← HW3.out, ← HMB.out]
      refine he.mono ?_
      clear he
      rintro e W4 ⟨rfl, _, hk4⟩
      go_wp2_with fail
      go_ret
      exact ⟨by rw [HP.out, HV.out]; rfl, HKf.out.trans' hk4 (fun b hb hl => by omega)⟩
  · have hne : (r != 0) = true := by simpa using h0
    have HP : Hid (pmayF x = r) := by show pmayF x = _; rw [pmayF, if_neg (by rw [hr]; exact h0), hr]
    clear hr
    go_enter Try.func28, Try.ntmps28
    go_upto_region 1 with fail
    rw [← HW.out]
    go_wp2_with fail
    refine hm.mono ?_
    clear hm b0 b1 b2 b3
    rintro e W ⟨rfl, hk⟩
    go_wp2_with fail
    go_ret
    exact ⟨by rw [HP.out]; rfl, hK.trans hk⟩
def noteI (L : List Note) (nm : ByteArray) : Option Value := (nget L nm).map fun _ => .int .i64 1
theorem noteI_put {l : List Nd} {x : Nd} {nm : ByteArray} (hv : varF x.k = some nm) (v : Value) (hval : v = .int .i64 1) : putM (noteI (nts l)) nm v = noteI (nts (l ++ [x])) := by
  subst hval
  funext a
  rw [nts_snoc]
  unfold putM noteI
  rw [nget_nadd, hv]
  by_cases ha : a = nm
  · subst ha; rw [if_pos rfl, if_pos rfl]; rfl
  · rw [if_neg ha, if_neg (fun e => ha (by simpa using e.symm))]
theorem nts_le (l : List Nd) : (nts l).length ≤ l.length := by
  have key : ∀ (l : List Nd) (acc : List Note), (l.foldl nadd acc).length ≤ acc.length + l.length := by
    intro l
    induction l with
    | nil => intro acc; simp
    | cons x l ih =>
      intro acc
      have h1 := ih (nadd acc x)
      have h2 : (nadd acc x).length ≤ acc.length + 1 := by
        unfold nadd
        cases varF x.k with
        | none => simp
        | some a => simp only; split <;> simp
      simp only [List.foldl_cons, List.length_cons]
      omega
  simpa [nts] using key l []
structure NamesJ (D Kb Mb Lb : Nat) (l : List Nd) (W : World) : Prop where
  box : W.heap[Kb]? = some (.cells #[.map (some Mb)] 121 (0, 0))
  map : MapAt W Mb (noteI (nts l)) l.length
  lst : ∃ vp vl vc, W.heap[Lb]? = some (.cells #[.slice vp vl vc] 58 (0, 0)) ∧ W.ownsRow D 9 1 (.slice vp vl vc) (nts l).length ((nts l).map fun e => .string e.1)
theorem NamesJ.same {D Kb Mb Lb : Nat} {l : List Nd} {x : Nd} {W W' : World} (h : NamesJ D Kb Mb Lb l W) (hk : Keeps (fun _ => False) W W') (hx : nts (l ++ [x]) = nts l) : NamesJ D Kb Mb Lb (l ++ [x]) W' := by
  obtain ⟨h1, h2, vp, vl, vc, h3, h4⟩ := h
  refine ⟨hk.heap h1, ?_, vp, vl, vc, hk.heap h3, ?_⟩
  · rw [hx]; exact (h2.keeps hk (fun h => h)).more (by simp)
  · rw [hx]; exact ownsRow_same h4 (fun b hb => hk.block b (h4.lt b (by simpa using hb)).2 (fun h => h))
theorem zeroI (w : World) : (zeroValue 3).run Try.prog w = .ok (.int .i64 0) w := by kernel_rfl
theorem Try.strInfo' : (Try.prog.info? 9).map (fun i => (i.zero, i.size, i.bytes)) = some (some (.string ByteArray.empty), 1, 16) := by kernel_rfl
set_option maxRecDepth 100000 in
set_option maxHeartbeats 1600000 in
theorem names1_any (A : Nat → Prop) (D Kb Mb Lb : Nat) (hord : Lb < Mb ∧ Mb < Kb ∧ Kb < D) (hA : ∀ b, A b → b < Lb) (l : List Nd) (W : World) (b o : Nat) (k : ByteArray) (n : Int) (t : ByteArray) (c : Fo) (cp : Option Addr) (cl cc : Nat) (hl : l.length < 1024) (hJ : NamesJ D Kb Mb Lb l W) (hb : A b) (hbs : b < W.heap.size) (hD : D ≤ W.heap.size) (hn : NodeAt W A b o k n t c cp cl cc) :
    Calls Try.prog 72 #[.pointer (some ⟨b, o, none⟩), .pointer (some ⟨Kb, 0, none⟩), .pointer (some ⟨Lb, 0, none⟩)] W fun e W' => e = .returned (.bool true) ∧ NamesJ D Kb Mb Lb (l ++ [⟨k, n, t, c⟩]) W' ∧ Keeps (fun b => b = Mb ∨ b = Lb ∨ D ≤ b) W W' := by
  obtain ⟨ho1, ho2, ho3⟩ := hord
  have hvar := variable_any A k n t c b o cp cl cc W hn
  unfold VarR at hvar
  have HJ := Lib.hid hJ
  have hks := hn.size.2
  cases hv : varF k with
  | none =>
    rw [hv] at hvar
    have hx : Hid (nts (l ++ [⟨k, n, t, c⟩]) = nts l) := by show nts _ = _; rw [nts_snoc, nadd]; simp only; rw [hv]
    clear hv hn hJ
    go_enter Try.func72, Try.ntmps72
    go_wp2_with fail
    refine hvar.mono ?_
    clear hvar
    rintro e W1 ⟨a, rfl, _, hk⟩
    go_wp2_with fail
    go_ret
    exact ⟨rfl, HJ.out.same hk hx.out, hk.mono fun _ h _ => h.elim⟩
  | some nm =>
    rw [hv] at hvar
    have hnm := varF_size hv hks
    have hv' := Lib.hid hv
    clear hv hn hJ
    go_enter Try.func72, Try.ntmps72
    go_wp2_with fail
    refine hvar.mono ?_
    clear hvar
    rintro e W1 ⟨a, rfl, ha, hk⟩
    obtain rfl := ha nm rfl
    clear ha
    obtain ⟨h1, h2, vp, vl, vc, h3, h4⟩ := HJ.out
    have HK := Lib.hid hk
    have hK1 := hk.heap h1
    have hM1 := h2.keeps hk (fun h => h)
    have hL1 := hk.heap h3
    have hR1 : W1.ownsRow D 9 1 (.slice vp vl vc) (nts l).length ((nts l).map fun e => .string e.1) := ownsRow_same h4 (fun b hb => hk.block b (h4.lt b (by simpa using hb)).2 (fun h => h))
    have k0 : W1.cell? ⟨Kb, 0, none⟩ = some (.map (some Mb)) := by simp [World.cell?, hK1]
    have hlook := (hM1.look (t := 121) Try.underlying121 (zeroI W1) (nm := a) hnm).2
    have hD1 : D ≤ W1.heap.size := Nat.le_trans hD hk.size
    cases hg : nget (nts l) a with
    | some e =>
      have hx : Hid (nts (l ++ [⟨k, n, t, c⟩]) = nts l) := by show nts _ = _; rw [nts_snoc, nadd]; simp only; rw [hv'.out]; simp [hg]
      simp only [noteI, hg, Option.map_some, Option.getD_some] at hlook
      clear hg h1 h2 h3 h4 hK1 hM1 hL1 hR1 hk
      go_wp2_with fail
      go_ret
      exact ⟨rfl, HJ.out.same HK.out hx.out, HK.out.mono fun _ h _ => h.elim⟩
    | none =>
      have hx : Hid (nts (l ++ [⟨k, n, t, c⟩]) = nts l ++ [(a, n, t)]) := by show nts _ = _; rw [nts_snoc, nadd]; simp only; rw [hv'.out]; simp [hg]
      simp only [noteI, hg, Option.map_none, Option.getD_none] at hlook
      have hlen := nts_le l
      have HK1 := Lib.hid hK1
      have HL1 := Lib.hid hL1
      have HR1 := Lib.hid hR1
      have hm3 := hM1
      clear hg h1 h2 h3 h4 hK1 hL1 hR1 hk hM1
      have hvM : (Value.slice vp vl vc).ownBlock ≠ some Mb := fun e => by have := (HR1.out.lt _ e).1; omega
      have hvL : (Value.slice vp vl vc).ownBlock ≠ some Lb := fun e => by have := (HR1.out.lt _ e).1; omega
      have hLl := heap_lt HL1.out
      have hKl := heap_lt HK1.out
      have hML : Lb ≠ Mb := by omega
      have hMK : Kb ≠ Mb := by omega
      have h14 : Hid (∀ W4, Keeps (fun c => c = Mb) W1 W4 → W4.cell? ⟨Lb, 0, none⟩ = some (.slice vp vl vc) ∧ W4.frozen? ⟨Lb, 0, none⟩ = false ∧ W4.ownsRow D 9 1 (.slice vp vl vc) (nts l).length ((nts l).map fun e => .string e.1) ∧ Lb < W4.heap.size ∧ D ≤ W4.heap.size ∧ W4.heap[Lb]? = some (.cells #[.slice vp vl vc] 58 (0, 0)) ∧ W4.heap[Kb]? = some (.cells #[.map (some Mb)] 121 (0, 0))) := Lib.hid fun W4 hk4 => by
        have e1 := (hk4.block Lb hLl hML).trans HL1.out
        exact ⟨by simp [World.cell?, e1], by simp [World.frozen?, e1], ownsRow_same HR1.out (fun b hb => hk4.block b (HR1.out.lt b (by simpa using hb)).2 (fun e => hvM (by rw [← e]; simpa using hb))), heap_lt e1, Nat.le_trans hD1 hk4.size, e1, (hk4.block Kb hKl hMK).trans HK1.out⟩
      obtain ⟨i0, hi0, hz0, hz1, hz2⟩ := info_parts Try.strInfo'
      have hnl : (nts l).length ≤ 100000 := by omega
      go_wp2_with (first
        | (at_mapUpdate; refine wpList_mapS rfl _ rfl _ _ _ 121 rfl 3 Try.underlying121 Mb l.length (noteI (nts l)) rfl hm3 (by omega) a (.int .i64 1) rfl rfl hnm ?_; intro W4 hm4 hk4; obtain ⟨l4, lf4, hrow4, hLs4, hD4, hlb4, hkb4⟩ := h14.out W4 hk4)
        | (at_builtin; refine wpList_append_lies _ rfl _ _ _ rfl D 9 i0 _ 1 16 Try.underlying58 hi0 hz0 hz1 hz2 rfl (by decide) (.slice vp vl vc) (nts l).length ((nts l).map fun e => .string e.1) rfl (hrow4.alloc _) ⟨W4.heap.size, 0, none⟩ 1 1 [.string a] rfl rfl (World.news_of_block (cs := #[.string a]) (t := 9) (fr := (0, 0)) (heap_alloc_new W4 _)) (by simp [Value.oneCell']) (by omega) (by simp only [maxLen]; omega) (by omega) (by simp; omega) (W4.heap.size + 1) (by simp) ?_; intro g1 c1 w5 hown5 hgrow5 hat5 hlt5; have hl5 : w5.cell? ⟨Lb, 0, none⟩ = some (.slice vp vl vc) := (hgrow5.cell_far ⟨Lb, 0, none⟩ (by simp; omega) (Ne.symm hvL)).trans ((World.cell?_alloc_past _ _ _ hLs4).trans l4); have hf5 : w5.frozen? ⟨Lb, 0, none⟩ = false := (hgrow5.frozen_far ⟨Lb, 0, none⟩ (by simp; omega) (Ne.symm hvL)).trans ((World.frozen?_alloc_past _ _ _ hLs4).trans lf4)))
      go_ret
      obtain ⟨q1, q2, q3⟩ := push_cell (i := 0) hlb4 (by omega) hrow4 hgrow5 hown5
      have hM5 := (hm4.keeps (S := fun b => b = Lb ∨ (Value.slice vp vl vc).ownBlock = some b) q3 (fun h => h.elim (fun e => hML e.symm) hvM))
      refine ⟨rfl, ⟨(q3.block Kb (heap_lt hkb4) (fun h => h.elim (fun e => by omega) (fun e => by have := (hrow4.lt _ e).1; omega))).trans hkb4, ?_, some ⟨g1, 0, none⟩, _, c1, q1, ?_⟩, ((HK.out.mono (S' := fun b => b = Mb ∨ b = Lb ∨ D ≤ b) fun _ h _ => h.elim).trans' hk4 (fun b hb _ => .inl hb)).trans' q3 (fun b hb _ => hb.elim (fun h => .inr (.inl h)) (fun h => .inr (.inr (hrow4.lt b h).1)))⟩
      · rw [← noteI_put (x := ⟨k, n, t, c⟩) hv'.out _ rfl]
        simpa using hM5
      · rw [hx.out, List.length_append, List.map_append]
        exact q2
theorem nget_mem {L : List Note} {nm : ByteArray} {e : Int × ByteArray} (h : nget L nm = some e) : (nm, e) ∈ L := by
  unfold nget at h
  cases hf : L.find? (fun e => decide (e.1 = nm)) with
  | none => rw [hf] at h; simp at h
  | some q =>
    rw [hf] at h
    simp only [Option.map_some, Option.some.injEq] at h
    have h1 := List.mem_of_find?_eq_some hf
    have h2 := List.find?_some hf
    simp only [decide_eq_true_eq] at h2
    rw [← h, ← h2]
    exact h1
/-- A list of texts. -/
def StrsR (l : List ByteArray) (w : World) (e : Ending) (w' : World) : Prop := ∃ vp vl vc, e = .returned (.slice vp vl vc) ∧ w'.ownsRow 0 9 1 (.slice vp vl vc) l.length (l.map .string) ∧ (∀ b, (Value.slice vp vl vc).ownBlock = some b → w.heap.size ≤ b) ∧ Keeps (fun _ => False) w w'
set_option maxRecDepth 100000 in
set_option maxHeartbeats 800000 in
theorem pNames_any (x : Nd) (cp : Option Addr) (cl cc : Nat) (A : Nat → Prop) (w : World) (h : Tv w A x.k x.t x.c cp cl cc) :
    Calls Try.prog 29 #[tv x.k x.n x.t cp cl cc] w (StrsR (namesF x) w) := by
  have hmf : ∀ (fn : Fn) (first cap : Array Value) (w : World), (Instr.makeFunc fn first cap).run Try.prog w = .ok (.func fn first cap) w := fun _ _ _ _ => rfl
  have hmm := @run_makeMap Try.prog
  obtain ⟨W1, hW1⟩ : ∃ W1, W1 = w.alloc (.cells (four x.k x.n x.t cp cl cc) T) := ⟨_, rfl⟩
  have hK : Keeps (fun _ => False) w W1 := by rw [hW1]; exact (Keeps.refl _ w).alloc _
  have hs1 : w.heap.size < W1.heap.size := by rw [hW1]; simp
  have hb1 : W1.heap[w.heap.size]? = some (.cells (four x.k x.n x.t cp cl cc) T (0, 0)) := by rw [hW1]; exact heap_alloc_new _ _
  have hn1 : NodeAt W1 (fun b => b < W1.heap.size) w.heap.size 0 x.k x.n x.t x.c cp cl cc := by rw [hW1]; exact (h.boxed (n := x.n) T).top
  have hm := pMay_any x cp cl cc _ W1 (h.next hK)
  obtain ⟨b0, b1, b2, b3, _⟩ := box4 hb1
  have HW := Lib.hid hW1
  clear hW1
  obtain ⟨r, hr⟩ : ∃ r, pmayF x = r := ⟨_, rfl⟩
  rw [hr] at hm
  by_cases h0 : r = 0
  · subst h0
    have hsm : x.small := mayF_small (by unfold pmayF at hr; split at hr; assumption; assumption)
    have HP : Hid (namesF x = (nts x.all).map (·.1)) := by show namesF x = _; rw [namesF, if_pos hr]
    clear hr
    go_enter Try.func29, Try.ntmps29
    go_upto_region 1 with fail
    rw [← HW.out]
    go_wp2_with fail
    refine hm.mono ?_
    clear hm b0 b1 b2 b3
    rintro e W ⟨rfl, hk⟩
    obtain ⟨W3, hW3⟩ : ∃ W3, W3 = ((W.alloc (.cells #[.slice none 0 0] 58)).alloc (.map #[] 0)).alloc (.cells #[.map (some (W.heap.size + 1))] 121) := ⟨_, rfl⟩
    obtain ⟨Lb, hLb⟩ : ∃ b, b = W.heap.size := ⟨_, rfl⟩
    have hk3 : Keeps (fun _ => False) W W3 := by rw [hW3]; exact (((Keeps.refl _ _).alloc _).alloc _).alloc _
    have hs3 : W3.heap.size = Lb + 3 := by rw [hW3, hLb]; simp
    have hJ : NamesJ (Lb + 3) (Lb + 2) (Lb + 1) Lb [] W3 := by
      refine ⟨?_, ?_, none, 0, 0, ?_, World.ownsRow_nil _ _ _ _⟩
      · rw [hW3, hLb]
        have := heap_alloc_new ((W.alloc (.cells #[.slice none 0 0] 58)).alloc (.map #[] 0)) (.cells #[.map (some (W.heap.size + 1))] 121)
        simpa using this
      · rw [hW3, hLb]
        have := (MapAt.made (W.alloc (.cells #[.slice none 0 0] 58))).keeps ((Keeps.refl (fun _ => False) _).alloc (.cells #[.map (some (W.heap.size + 1))] 121)) (fun h => h)
        have e : noteI (nts []) = noM := rfl
        rw [e]
        simpa using this
      · rw [hW3, hLb, Below.heap_alloc _ _ _ (by simp; omega), Below.heap_alloc _ _ _ (by simp)]
        exact heap_alloc_new W _
    have hK13 := hk.trans hk3
    have hWM : W1.heap.size ≤ Lb := by rw [hLb]; exact hk.size
    have ht : Tell (fun _ => True) (fun b => b < Lb) (fun b => b = Lb + 1 ∨ b = Lb ∨ Lb + 3 ≤ b) (fun l W => NamesJ (Lb + 3) (Lb + 2) (Lb + 1) Lb l W ∧ Lb + 3 ≤ W.heap.size) (fun _ _ => true) 72 #[.pointer (some ⟨Lb + 2, 0, none⟩), .pointer (some ⟨Lb, 0, none⟩)] :=
      ⟨fun args w => by kernel_rfl, fun b h1 h2 => by omega, fun l W b o k n t c cp cl cc _ hl _ hJ hb hbs hn => (names1_any (fun b => b < Lb) (Lb + 3) (Lb + 2) (Lb + 1) Lb (by omega) (fun b hb => hb) l W b o k n t c cp cl cc hl hJ.1 hb hbs hJ.2 hn).mono fun e W' ⟨h1, h2, h3⟩ => ⟨h1, fun _ => ⟨h2, by have := h3.size; have := hJ.2; omega⟩, h3⟩⟩
    have hb3 : w.heap.size < W3.heap.size := by have := hK13.size; omega
    have hn3 : NodeAt W3 (fun b => b < Lb) w.heap.size 0 x.k x.n x.t x.c cp cl cc := (hn1.next hK13 hs1).mono (fun b hb => by omega)
    have he := each_any _ _ _ _ _ _ _ ht (x.c.nodes + 1) x.k x.n x.t x.c w.heap.size 0 cp cl cc [] W3 (by omega) (fun _ _ => trivial) (by have := small_nodes hsm; simpa using this) (by rfl) ⟨hJ, by omega⟩ (by show w.heap.size < Lb; omega) hb3 hn3
    unfold EachT at he
    rw [vis_all _ (fun _ _ => rfl)] at he
    have HW3 := Lib.hid hW3
    have HLB := Lib.hid hLb
    have HKf := Lib.hid (hK.trans hK13)
    have hMw : w.heap.size < Lb := by omega
    clear hW3 hLb hJ ht hn3 hK13 hk3 hk hn1 hs3
    go_wp2_with fail
    rw [← HW3.out, ← HLB.out]
    refine he.mono ?_
    clear he
    rintro e W4 ⟨rfl, hJ4, hk4⟩
    obtain ⟨⟨q1, q2, vp, vl, vc, q3, q4⟩, q5⟩ := hJ4 trivial
    have l0 : W4.cell? ⟨Lb, 0, none⟩ = some (.slice vp vl vc) := by simp [World.cell?, q3]
    have hq4 : Hid (W4.ownsRow (Lb + 3) 9 1 (.slice vp vl vc) (nts x.all).length ((nts x.all).map fun e => .string e.1)) := q4
    clear q1 q2 q3 q4 q5 hJ4
    go_wp2_with fail
    go_ret
    refine ⟨vp, vl, vc, rfl, ?_, fun b hb => by have := (hq4.out.lt b hb).1; omega, HKf.out.trans' hk4 (fun b hb hl => by omega)⟩
    rw [HP.out, List.length_map, List.map_map]
    exact ⟨hq4.out.1, hq4.out.2.imp id (fun ⟨g, cap, cur, a, b, c⟩ => ⟨g, cap, cur, a, Nat.zero_le _, c⟩)⟩
  · have hne : (r != 0) = true := by simpa using h0
    have HP : Hid (namesF x = []) := by show namesF x = _; rw [namesF, if_neg (by rw [hr]; exact h0)]
    clear hr
    go_enter Try.func29, Try.ntmps29
    go_upto_region 1 with fail
    rw [← HW.out]
    go_wp2_with fail
    refine hm.mono ?_
    clear hm b0 b1 b2 b3
    rintro e W ⟨rfl, hk⟩
    go_wp2_with fail
    go_ret
    exact ⟨none, 0, 0, rfl, by rw [HP.out]; exact World.ownsRow_nil _ _ _ _, fun b hb => by simp [Value.ownBlock] at hb, hK.trans hk⟩
end Go.Proofs.Ytccoihmibkpedaa
