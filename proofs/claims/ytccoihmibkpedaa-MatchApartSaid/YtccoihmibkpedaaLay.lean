/-
  (*match.room).lay: its walk.
-/
import Derived.Test.YtccoihmibkpedaaPkF

import Derived.WalkSpells

import Derived.Deep.RegionLaw

import Derived.Deep.RegionHeld3

import Derived.StillTailTactics

set_option linter.unusedVariables false

set_option linter.unusedSimpArgs false

namespace Go.Proofs.Ytccoihmibkpedaa

open Go.RowKit

theorem roomBox {W : World} {b : Nat} {x y : Value} {T' : TypeId} (h : W.heap[b]? = some (.cells #[x, y] T' (0, 0))) : W.cell? ⟨b, 0, none⟩ = some x ∧ W.cell? ⟨b, 1, none⟩ = some y ∧ W.frozen? ⟨b, 0, none⟩ = false ∧ W.frozen? ⟨b, 1, none⟩ = false := by
  simp [World.cell?, World.frozen?, h]
set_option maxRecDepth 100000 in
set_option maxHeartbeats 6400000 in
theorem lay_any (A : Nat → Prop) (Rb : Nat) (hA : ∀ b, A b → b ≠ Rb) : ∀ (N : Nat), N ≤ 100000 → ∀ (m : Option (List Bind)) (kv : Value) (k : ByteArray) (n : Int) (t : ByteArray) (c : Fo) (b o : Nat) (cp : Option Addr) (cl cc : Nat) (d : Int) (q : Cnt) (w : World),
    mes m c < N → AllIn m k n t c → KnownS A Rb w kv m → A b → b < w.heap.size → NodeAt w A b o k n t c cp cl cc → w.heap[Rb]? = some (.cells #[.int .i64 q.nodes, .int .i64 q.bytes] 104 (0, 0)) → q.fit → 0 ≤ d → d ≤ 65 →
    Calls Try.prog 61 #[.pointer (some ⟨Rb, 0, none⟩), .pointer (some ⟨b, o, none⟩), kv, .int .i64 d] w (LayR Rb (fl m ⟨k, n, t, c⟩) (wlk1 (fl m ⟨k, n, t, c⟩).k (fl m ⟨k, n, t, c⟩).t (fl m ⟨k, n, t, c⟩).c d q) w) := by
  intro N
  induction N with
  | zero => intros; omega
  | succ N ih =>
    intro hN1 m kv k n t c b o cp cl cc d q w hN hAll hKn hb hbs hn hR hq hd0 hd1
    have hmap : ∀ (W : World) (r : Option Nat), (binOp .neq 89 (.map r) (.map none)).run Try.prog W = .ok (.bool (!r.isNone)) W := fun W r => run_neq_map_nil W _ _ _ r Try.underlying89
    obtain ⟨w1, hw1⟩ : ∃ w1, w1 = w.alloc (.cells (four e0 0 e0 none 0 0) T) := ⟨_, rfl⟩
    have hK1 : Keeps (fun _ => False) w w1 := by rw [hw1]; exact (Keeps.refl _ w).alloc _
    have hres1 : w1.heap[w.heap.size]? = some (.cells (four e0 0 e0 none 0 0) T (0, 0)) := by rw [hw1]; exact heap_alloc_new _ _
    have hn1 := hn.next hK1 hbs
    have hvar := variable_any A k n t c b o cp cl cc w1 hn1
    unfold VarR at hvar
    have HW1 := Lib.hid hw1
    have HRes1 := Lib.hid hres1
    have hRl := heap_lt hR
    have HR := Lib.hid hR
    have HN := Lib.hid hn
    have HKN := Lib.hid hKn
    have HQ := Lib.hid hq
    have HALL := Lib.hid hAll
    clear hw1 hres1 hn1 hR hn hKn hq hAll
    have hcase : (∃ nm bs, m = some bs ∧ varF k = some nm) ∨ (fl m ⟨k, n, t, c⟩ = ⟨k, n, t, flF m c⟩ ∧ (m = none ∨ varF k = none)) := by
      cases hv : varF k with
      | none =>
        refine .inr ⟨?_, .inr rfl⟩
        cases m with
        | none => rfl
        | some bs => simp only [fl, fill1, flF]; rw [hv]
      | some nm =>
        cases m with
        | none => exact .inr ⟨rfl, .inl rfl⟩
        | some bs => exact .inl ⟨nm, bs, rfl, rfl⟩
    rcases hcase with ⟨nm, bs, rfl, hv⟩ | ⟨hfl, hmv⟩
    · obtain ⟨Mb, M, mm, rfl, hMp, hMR, hM⟩ := HKN.out
      obtain ⟨y, hy⟩ := Option.isSome_iff_exists.1 (HALL.out ⟨k, n, t, c⟩ (by simp [Nd.all]) nm hv)
      obtain ⟨hyn, yb, yo, yp, yl, yc, hMy, hyA, hyb, hyt⟩ := hM nm y hy
      have hfl : Hid (fl (some bs) ⟨k, n, t, c⟩ = y) := by show fill1 bs _ = y; unfold fill1; simp only [hv, hy, Option.getD_some]
      rw [hfl.out]
      have hnms := varF_size hv HN.out.size.2
      have hlk : ∀ W, Keeps (fun _ => False) w W → (Instr.lookup 89 (.map (some Mb)) (.string nm) false).run Try.prog W = .ok (.pointer (some ⟨yb, yo, none⟩)) W := fun W hk => by
        have := ((hMp.keeps hk (fun h => h)).look (t := 89) Try.underlying89 (zeroPtr W) (nm := nm) hnms).2
        rw [hMy] at this
        exact this
      have HLK := Lib.hid hlk
      have hin : Hid (∀ W, Keeps (fun _ => False) w W → Calls Try.prog 61 #[.pointer (some ⟨Rb, 0, none⟩), .pointer (some ⟨yb, yo, none⟩), .map none, .int .i64 d] W (LayR Rb y (wlk1 y.k y.t y.c d q) W)) := Lib.hid fun W hk => by
        have := ih (by omega) none (.map none) y.k y.n y.t y.c yb yo yp yl yc d q W (by simp only [mes] at hN ⊢; omega) trivial rfl hyA (Nat.lt_of_lt_of_le hyb hk.size) (hyt.next hk hyb) (hk.heap HR.out) HQ.out hd0 hd1
        exact this
      rw [hv] at hvar
      have HV := Lib.hid hv
      clear hv hy hM hMy hMp hyt hlk
      go_enter Try.func61, Try.ntmps61
      go_upto_region 1 with fail
      rw [← HW1.out]
      go_wp2_with fail
      refine hvar.mono ?_
      clear hvar
      rintro e W ⟨a, rfl, ha, hk⟩
      obtain rfl := ha nm rfl
      clear ha
      have hkW := hK1.trans hk
      have hlk := HLK.out W hkW
      go_wp2_with fail
      refine (hin.out _ hkW).mono ?_
      rintro e W2 ⟨hk2, hr⟩
      have hrl := heap_lt HRes1.out
      have hwl : w.heap.size < W.heap.size := by have := hk.size; omega
      have hRw : Rb ≠ w.heap.size := by omega
      have hres2 := (hk2.block _ hwl (fun e => hRw e.symm)).trans (hk.heap HRes1.out)
      obtain ⟨r0, r1, r2, r3, f0, f1, f2, f3⟩ := box4 hres2
      have HK2 := Lib.hid hk2
      have HKW := Lib.hid hkW
      have hres2' := Lib.hid hres2
      clear hk2 hkW hres2 hk hlk
      rcases hr with ⟨hr1, zp, zl, zc, bz, rfl, hoz, hnz, hR2⟩ | ⟨hr1, rfl⟩
      · have HR1 := Lib.hid hr1
        clear hr1
        go_wp2_with fail
        have hbx : ((((W2.setCell ⟨w.heap.size, 0, none⟩ (.string y.k)).setCell ⟨w.heap.size, 1, none⟩ (.int .i64 y.n)).setCell ⟨w.heap.size, 2, none⟩ (.string y.t)).setCell ⟨w.heap.size, 3, none⟩ (.slice zp zl zc)).heap[w.heap.size]? = some (.cells (four y.k y.n y.t zp zl zc) T (0, 0)) := by
          rw [heap_set (heap_set (heap_set (heap_set hres2'.out _ _) _ _) _ _) _ _]; rfl
        obtain ⟨q0, q1, q2, q3, _⟩ := box4 hbx
        have h4 := Keeps.four W2 w.heap.size (.string y.k) (.int .i64 y.n) (.string y.t) (.slice zp zl zc)
        refine bodyPost_ret (v := .tuple #[tv y.k y.n y.t zp zl zc, .bool true]) (by simp [results, Try.results61, go_sem, q0, q1, q2, q3]) rfl ⟨?_, .inl ⟨HR1.out, zp, zl, zc, bz, rfl, hoz.keeps h4 (fun x hx => ⟨hnz.hi x hx, fun e => by have := hnz.lo x hx; omega⟩), (hnz.keeps h4).mono (by omega), (h4.block _ (heap_lt hR2) hRw).trans hR2⟩⟩
        exact ((HKW.out.mono (S' := fun b => b = Rb) fun _ h _ => h.elim).trans HK2.out).trans' h4 (fun x hx hl => by omega)
      · have HR1 := Lib.hid hr1
        clear hr1
        go_wp2_with fail
        have hbx : ((((W2.setCell ⟨w.heap.size, 0, none⟩ (.string e0)).setCell ⟨w.heap.size, 1, none⟩ (.int .i64 0)).setCell ⟨w.heap.size, 2, none⟩ (.string e0)).setCell ⟨w.heap.size, 3, none⟩ (.slice none 0 0)).heap[w.heap.size]? = some (.cells (four e0 0 e0 none 0 0) T (0, 0)) := by
          rw [heap_set (heap_set (heap_set (heap_set hres2'.out _ _) _ _) _ _) _ _]; rfl
        obtain ⟨q0, q1, q2, q3, _⟩ := box4 hbx
        have h4 := Keeps.four W2 w.heap.size (.string e0) (.int .i64 0) (.string e0) (.slice none 0 0)
        refine bodyPost_ret (v := .tuple #[tv e0 0 e0 none 0 0, .bool false]) (by simp [results, Try.results61, go_sem, q0, q1, q2, q3]) rfl ⟨?_, .inr ⟨HR1.out, rfl⟩⟩
        exact ((HKW.out.mono (S' := fun b => b = Rb) fun _ h _ => h.elim).trans HK2.out).trans' h4 (fun x hx hl => by omega)
    · rw [hfl]
      have hg : ((varF k).isSome = false ∧ ∃ v, kv = v) ∨ ((varF k).isSome = true ∧ kv = .map none) := by
        cases hv : varF k with
        | none => exact .inl ⟨rfl, _, rfl⟩
        | some nm =>
          refine .inr ⟨rfl, ?_⟩
          rcases hmv with rfl | h
          · exact HKN.out
          · rw [hv] at h; simp at h
      obtain ⟨c', hc'⟩ : ∃ c', flF m c = c' := ⟨_, rfl⟩
      have hclen : c'.len = c.len := by rw [← hc']; exact flF_len m c
      have HC' := Lib.hid hc'
      have HCL := Lib.hid hclen
      have HMV := Lib.hid hmv
      have HFL := Lib.hid hfl
      obtain ⟨is, his⟩ : ∃ b, (varF k).isSome = b := ⟨_, rfl⟩
      rw [hc']
      rw [his] at hvar hg
      have hqn := HQ.out.1
      have hqn2 := HQ.out.2.1
      have hqb := HQ.out.2.2.1
      have hqb2 := HQ.out.2.2.2
      have hts := HN.out.size.1
      clear hc' hclen hmv hfl his
      rcases hg with ⟨rfl, v, rfl⟩ | ⟨rfl, rfl⟩
      all_goals
        go_enter Try.func61, Try.ntmps61
        go_upto_region 1 with fail
        rw [← HW1.out]
        go_wp2_with fail
        refine hvar.mono ?_
        clear hvar
        rintro e W ⟨a, rfl, _, hk⟩
        have hkW := hK1.trans hk
        obtain ⟨m0, m1, g0, g1⟩ := roomBox (hkW.heap HR.out)
        have hn2 := HN.out.next hkW hbs
        have c2 := hn2.c2
        have hRW := Lib.hid (hkW.heap HR.out)
        have HKW := Lib.hid hkW
        have HRes := Lib.hid (hk.heap HRes1.out)
        clear hkW hk hn2
        obtain ⟨W2, hW2⟩ : ∃ W2, W2 = W.setCell ⟨Rb, 0, none⟩ (.int .i64 (q.nodes + 1)) := ⟨_, rfl⟩
        have hk2 : Keeps (fun b => b = Rb) W W2 := by rw [hW2]; exact (Keeps.refl (fun b => b = Rb) W).setCell (p := ⟨Rb, 0, none⟩) (fun _ => rfl) _
        have hr2 : W2.heap[Rb]? = some (.cells #[.int .i64 (q.nodes + 1), .int .i64 q.bytes] 104 (0, 0)) := by rw [hW2, heap_set hRW.out]; rfl
        obtain ⟨m0', m1', g0', g1'⟩ := roomBox hr2
        have hkw2 : Keeps (fun b => b = Rb) w W2 := (HKW.out.mono (S' := fun b => b = Rb) fun _ h _ => h.elim).trans hk2
        have hn2 := HN.out.keeps hkw2 (fun x hx e => hA x hx e) hbs (hA b hb)
        have c2' := hn2.c2
        have HW2 := Lib.hid hW2
        have HR2 := Lib.hid hr2
        have HKw2 := Lib.hid hkw2
        have HK2 := Lib.hid hk2
        clear hk2 hr2 hkw2 hn2 hW2
        go_upto_region 5 with fail
        rw [← HW2.out]
        clear m0 m1 g0 g1 c2
        obtain ⟨W3, hW3⟩ : ∃ W3, W3 = (W2.setCell ⟨Rb, 1, none⟩ (.int .i64 (q.bytes + t.size))).drew := ⟨_, rfl⟩
        have hk3 : Keeps (fun b => b = Rb) w W3 := by rw [hW3]; exact (HKw2.out.setCell (p := ⟨Rb, 1, none⟩) (fun _ => rfl) _).drew
        have hr3 : W3.heap[Rb]? = some (.cells #[.int .i64 (q.nodes + 1), .int .i64 (q.bytes + t.size)] 104 (0, 0)) := by
          rw [hW3]
          have : (W2.setCell ⟨Rb, 1, none⟩ (.int .i64 (q.bytes + t.size))).heap[Rb]? = some (.cells #[.int .i64 (q.nodes + 1), .int .i64 (q.bytes + t.size)] 104 (0, 0)) := by rw [heap_set HR2.out]; rfl
          exact this
        have hrl := heap_lt HRes1.out
        have hRw : Rb ≠ w.heap.size := by omega
        have hresW := heap_lt HRes.out
        have hres3 : W3.heap[w.heap.size]? = some (.cells (four e0 0 e0 none 0 0) T (0, 0)) := by
          have h1 := (HK2.out.block _ hresW (fun e => hRw e.symm)).trans HRes.out
          have h2 : Keeps (fun b => b = Rb) W2 W3 := by rw [hW3]; exact ((Keeps.refl (fun b => b = Rb) W2).setCell (p := ⟨Rb, 1, none⟩) (fun _ => rfl) _).drew
          exact (h2.block _ (heap_lt h1) (fun e => hRw e.symm)).trans h1
        go_still_tail 12, (by kernel_rfl)
        change wpList _ _ _ _ _ W2.drew
        have HW3 := Lib.hid hW3
        have HR3 := Lib.hid hr3
        have HK3 := Lib.hid hk3
        have HRes3 := Lib.hid hres3
        clear hW3 hr3 hk3 hres3 hrl
        go_upto_region 6 with fail
        rw [← HW3.out]
        clear m0' m1' g0' g1' c2'
        obtain ⟨m0, m1, g0, g1⟩ := roomBox HR3.out
        obtain ⟨r0, r1, r2, r3, f0, f1, f2, f3⟩ := box4 HRes3.out
        by_cases hbad : (q.add d t).bad d = true
        · have hcs := Cnt.bad_cases hbad
          have hwk : Hid ((wlk1 k t c' d q).2.1 = false) := by show (wlk1 k t c' d q).2.1 = false; rw [wlk1, if_pos hbad]
          have hbx : Hid (((((W3.setCell ⟨w.heap.size, 0, none⟩ (.string e0)).setCell ⟨w.heap.size, 1, none⟩ (.int .i64 0)).setCell ⟨w.heap.size, 2, none⟩ (.string e0)).setCell ⟨w.heap.size, 3, none⟩ (.slice none 0 0)).heap[w.heap.size]? = some (.cells (four e0 0 e0 none 0 0) T (0, 0))) := by
            show _ = _
            rw [heap_set (heap_set (heap_set (heap_set HRes3.out _ _) _ _) _ _) _ _]; rfl
          clear hbad
          by_cases h1 : 1024 < q.nodes + 1
          · clear hcs
            go_wp2_with fail
            obtain ⟨q0, q1, q2, q3, _⟩ := box4 hbx.out
            exact bodyPost_ret (v := .tuple #[tv e0 0 e0 none 0 0, .bool false]) (by simp [results, Try.results61, go_sem, q0, q1, q2, q3]) rfl ⟨HK3.out.trans' (Keeps.four W3 w.heap.size (.string e0) (.int .i64 0) (.string e0) (.slice none 0 0)) (fun x hx hl => by omega), .inr ⟨hwk.out, rfl⟩⟩
          · by_cases h2 : 16384 < q.bytes + t.size
            · clear hcs
              go_wp2_with fail
              obtain ⟨q0, q1, q2, q3, _⟩ := box4 hbx.out
              exact bodyPost_ret (v := .tuple #[tv e0 0 e0 none 0 0, .bool false]) (by simp [results, Try.results61, go_sem, q0, q1, q2, q3]) rfl ⟨HK3.out.trans' (Keeps.four W3 w.heap.size (.string e0) (.int .i64 0) (.string e0) (.slice none 0 0)) (fun x hx hl => by omega), .inr ⟨hwk.out, rfl⟩⟩
            · have h3 : 64 < d := by omega
              clear hcs
              go_wp2_with fail
              obtain ⟨q0, q1, q2, q3, _⟩ := box4 hbx.out
              exact bodyPost_ret (v := .tuple #[tv e0 0 e0 none 0 0, .bool false]) (by simp [results, Try.results61, go_sem, q0, q1, q2, q3]) rfl ⟨HK3.out.trans' (Keeps.four W3 w.heap.size (.string e0) (.int .i64 0) (.string e0) (.slice none 0 0)) (fun x hx hl => by omega), .inr ⟨hwk.out, rfl⟩⟩
        · have hbad : (q.add d t).bad d = false := by simpa using hbad
          obtain ⟨h1, h2, h3⟩ := Cnt.good_cases hbad
          have hq1 := Cnt.add_fit HQ.out hbad
          have HB := Lib.hid (wlk1_good (k := k) (cs := c') hbad)
          have hn3 := HN.out.keeps HK3.out (fun x hx e => hA x hx e) hbs (hA b hb)
          have c0 := hn3.c0
          have c1 := hn3.c1
          have c2 := hn3.c2
          have HN3 := Lib.hid hn3
          clear hbad hn3
          have hS : Hid (∀ W', Keeps (fun _ => False) W3 W' → W'.cell? ⟨b, o, none⟩ = some (.string k) ∧ W'.cell? ⟨b, o + 1, none⟩ = some (.int .i64 n) ∧ W'.cell? ⟨b, o + 2, none⟩ = some (.string t)) := Lib.hid fun W' hk => by
            have := HN3.out.next hk (Nat.lt_of_lt_of_le hbs HK3.out.size)
            exact ⟨this.c0, this.c1, this.c2⟩
          have hkk : Keeps (fun _ => False) W3 W3 := Keeps.refl _ _
          go_wp2_with fail
          clear m0 m1 g0 g1 r0 r1 r2 r3 f0 f1 f2 f3
          go_region_held3 (fun W' => W'.cell? ⟨b, o, none⟩ = some (.string k) ∧ W'.cell? ⟨b, o + 1, none⟩ = some (.int .i64 n) ∧ W'.cell? ⟨b, o + 2, none⟩ = some (.string t)) ((refine hS.out _ ?_; repeat' (first | exact hkk | refine Keeps.drew ?_ | refine Keeps.alloc ?_ _ | refine Keeps.setCell ?_ (fun hh => absurd (show W3.heap.size < W3.heap.size from hh) (by omega)) _))) (fail)
          obtain ⟨tb, htb⟩ : ∃ b, b = W3.heap.size := ⟨_, rfl⟩
          obtain ⟨W4, hW4⟩ : ∃ W4, W4 = (W3.alloc (.cells (four k n t none 0 0) T)).drew := ⟨_, rfl⟩
          have hk4 : Keeps (fun _ => False) W3 W4 := by rw [hW4]; exact ((Keeps.refl _ _).alloc _).drew
          have hu4 : W4.heap[tb]? = some (.cells (four k n t none 0 0) T (0, 0)) := by rw [hW4, htb]; exact heap_alloc_new _ _
          have hs4 : tb < W4.heap.size := heap_lt hu4
          have hK4 : Keeps (fun b => b = Rb) w W4 := HK3.out.trans' hk4 (fun _ h => h.elim)
          have hR4 := hk4.heap HR3.out
          have hres4 := hk4.heap HRes3.out
          have hn4 := HN.out.keeps hK4 (fun x hx e => hA x hx e) hbs (hA b hb)
          have c3 := hn4.c3
          have hlc := hn4.lc
          have hcm := hn4.cm
          have htw : w.heap.size < tb := by have := heap_lt HRes3.out; omega
          have hRtb : Rb ≠ tb := by have := heap_lt HR3.out; omega
          have hclb : c.nodes ≤ 100000 := by cases m <;> simp only [mes] at hN <;> omega
          have hcl2 : cl ≤ 100000 := by have h1 := Fo.len_nodes c; rw [HN.out.kids.len] at h1; omega
          rw [← hW4, ← htb]
          have HTB := Lib.hid htb
          have HU4 := Lib.hid hu4
          have HK4 := Lib.hid hK4
          have HR4 := Lib.hid hR4
          have HRes4 := Lib.hid hres4
          have HQ1 := Lib.hid hq1
          have hclen : Hid (c'.len = cl) := Lib.hid (by rw [HCL.out, HN.out.kids.len])
          clear hW4 htb hk4 hu4 hK4 hR4 hres4 hn4 hq1 c0 c1 c2 hkk hS
          go_wp2_with fail
          go_loopg [88] cl (fun mm i W => ∃ j : Nat, j + mm = cl ∧ i = .int .i64 j ∧ ∃ qj lj vp vl vc xs bs, Part c' (d + 1) (q.add d t) j qj lj ∧ qj.fit ∧ RowI W4.heap.size W c' j vp vl vc xs bs ∧ W.heap[tb]? = some (.cells (four k n t vp vl vc) T (0, 0)) ∧ W.heap[w.heap.size]? = some (.cells (four e0 0 e0 none 0 0) T (0, 0)) ∧ W.heap[Rb]? = some (.cells #[.int .i64 qj.nodes, .int .i64 qj.bytes] 104 (0, 0)) ∧ Keeps (fun b => b = Rb) w W ∧ W4.heap.size ≤ W.heap.size)
          case atStart => exact ⟨0, by omega, rfl, q.add d t, [], none, 0, 0, [], [], Part.start _ _ _, HQ1.out, RowI.start _ _ _, HU4.out, HRes4.out, HR4.out, HK4.out, Nat.le_refl _⟩
          case round =>
            obtain ⟨j, hjm, rfl, qj, lj, vp, vl, vc, xs, bs, hP, hqj, hI, hu, hres, hRj, hkj, hsz⟩ := hrel
            have hnr := HN.out.keeps hkj (fun x hx e => hA x hx e) hbs (hA b hb)
            have k3 := hnr.c3
            have HM := Lib.hid hjm
            have HP := Lib.hid hP
            have HQJ := Lib.hid hqj
            have HI := Lib.hid hI
            have HU := Lib.hid hu
            have HRes := Lib.hid hres
            have HRj := Lib.hid hRj
            have HKj := Lib.hid hkj
            clear hjm hP hqj hI hu hres hRj hkj c3
            by_cases hlt : j < cl
            · obtain ⟨kb, ko, rfl, hkA, hkb⟩ := hnr.kids.hasAddr (by omega)
              obtain ⟨k1, n1, t1, s1, r1', hdr⟩ := Fo.drop_lt j c (by rw [hnr.kids.len]; exact hlt)
              obtain ⟨cp1, cl1, cc1, hn1⟩ := hnr.kids.at_ j hdr hlt
              have hcN := Fo.kid_le hdr
              have hKr := HKN.out.keeps HKj.out (fun _ h => h) hA
              have hall1 : AllIn m k1 n1 t1 s1 := by
                have := HALL.out
                cases m with
                | none => trivial
                | some bs => exact fun x hx nm hv => this x (by simp only [Nd.all, List.mem_cons]; exact .inr (Fo.all_kid hdr x hx)) nm hv
              have hi := ih (by omega) m _ k1 n1 t1 s1 kb (ko + j * 4) cp1 cl1 cc1 (d + 1) qj wr (by cases m <;> simp only [mes] at hN ⊢ <;> omega) hall1 hKr hkA hkb hn1 HRj.out HQJ.out (by omega) (by omega)
              have hdF := flF_drop m hdr
              rw [HC'.out] at hdF
              obtain ⟨y, hy⟩ : ∃ y, fl m ⟨k1, n1, t1, s1⟩ = y := ⟨_, rfl⟩
              rw [hy] at hi hdF
              have HDF := Lib.hid hdF
              have hi0 : (0 : Int) ≤ (j : Int) := Int.natCast_nonneg _
              have hi1 : (j : Int) < (cl : Int) := by omega
              have hysz : Hid (szok y.k y.t) := by
                show szok y.k y.t
                have := fl_szok hKr (k := k1) (n := n1) (t := t1) (c := s1) hn1.size
                rwa [hy] at this
              obtain ⟨⟨q2, ok, l2⟩, hr⟩ : ∃ r, wlk1 y.k y.t y.c (d + 1) qj = r := ⟨_, rfl⟩
              rw [hr] at hi
              have HRr := Lib.hid hr
              clear hdr hn1 hKr hall1 hdF hy hnr hr
              go_wp2_with fail
              refine hi.mono ?_
              clear hi
              rintro e W5 ⟨hk5, hr5⟩
              have hk5s := hk5.size
              have hres5 := (hk5.block _ (heap_lt HRes.out) (fun e => hRw e.symm)).trans HRes.out
              have hu5 := (hk5.block _ (heap_lt HU.out) (fun e => hRtb e.symm)).trans HU.out
              have HK5 := Lib.hid hk5
              have HRes5 := Lib.hid hres5
              have HU5 := Lib.hid hu5
              clear hk5 hres5 hu5 k3
              rcases hr5 with ⟨hr1, zp, zl, zc, bz, rfl, hoz, hnz, hR5⟩ | ⟨hr1, rfl⟩
              · dsimp only at hr1
                subst hr1
                obtain ⟨sb', hsb⟩ : ∃ b, b = W5.heap.size := ⟨_, rfl⟩
                obtain ⟨W6, hW6⟩ : ∃ W6, W6 = W5.alloc (.cells (four y.k y.n y.t zp zl zc) T) := ⟨_, rfl⟩
                have hk6 : Keeps (fun _ => False) W5 W6 := by rw [hW6]; exact (Keeps.refl _ _).alloc _
                have hs6 : W6.heap[sb']? = some (.cells (four y.k y.n y.t zp zl zc) T (0, 0)) := by rw [hW6, hsb]; exact heap_alloc_new _ _
                obtain ⟨z0, z1, z2, z3, _⟩ := box4 hs6
                have hu6 := hk6.heap HU5.out
                obtain ⟨_, _, _, u3, _, _, _, fu3⟩ := box4 hu6
                have hk56 : Keeps (fun b => b = Rb) wr W6 := HK5.out.trans' hk6 (fun _ h => h.elim)
                have hD4 : Rb < W4.heap.size := heap_lt HR4.out
                have hI6 := HI.out.keeps hk56 (fun b hb => by omega)
                have hrow6 := hI6.row
                have HO6 := Lib.hid (hoz.keeps hk6 (fun b hb => ⟨hnz.hi b hb, fun h => h⟩))
                have HN6 := Lib.hid (hnz.keeps hk6)
                have HW6 := Lib.hid hW6
                have HSB := Lib.hid hsb
                have HK56 := Lib.hid hk56
                have HR6 := Lib.hid (hk6.heap hR5)
                have HU6 := Lib.hid hu6
                have HRes6 := Lib.hid (hk6.heap HRes5.out)
                have htb6 := heap_lt hu6
                have hvb : (Value.slice vp vl vc).ownBlock ≠ some tb := fun e => by have := (HI.out.lo e).1; omega
                obtain ⟨i0, hi0', hz0, hz1, hz2⟩ := info_parts Try.treeInfo
                have HS6 := Lib.hid hs6
                clear hoz hnz hsb hk6 hs6 hI6 hR5 hu6 hk56
                rw [hW6] at z0 z1 z2 z3 u3 fu3
                clear hW6
                go_upto_region 13 with fail
                rw [← HW6.out, ← HSB.out]
                clear z0 z1 z2 z3 u3 fu3
                obtain ⟨z0, z1, z2, z3, _⟩ := box4 HS6.out
                obtain ⟨_, _, _, u3, _, _, _, fu3⟩ := box4 HU6.out
                go_wp2_with (at_builtin; refine wpList_append_lies _ rfl _ _ _ rfl 0 T i0 _ 4 64 Try.underlying24 hi0' hz0 hz1 hz2 rfl (by decide) (.slice vp vl vc) j xs rfl (hrow6.alloc _) ⟨W6.heap.size, 0, none⟩ 1 1 [.string y.k, .int .i64 y.n, .string y.t, .slice zp zl zc] rfl rfl (World.news_of_block (cs := #[.string y.k, .int .i64 y.n, .string y.t, .slice zp zl zc]) (t := T) (fr := (0, 0)) (heap_alloc_new W6 _)) (by simp [Value.oneCell']) (by omega) (by simp only [maxLen]; omega) (by omega) (by omega) (W6.heap.size + 1) (by simp) ?_; intro gg cap w7 hown7 hgrow7 hat7 hlt7; have hu7 : w7.cell? ⟨tb, 3, none⟩ = some (.slice vp vl vc) := (hgrow7.cell_far ⟨tb, 3, none⟩ (by simp; omega) (Ne.symm hvb)).trans ((World.cell?_alloc_past _ _ _ htb6).trans u3); have hf7 : w7.frozen? ⟨tb, 3, none⟩ = false := (hgrow7.frozen_far ⟨tb, 3, none⟩ (by simp; omega) (Ne.symm hvb)).trans ((World.frozen?_alloc_past _ _ _ htb6).trans fu3))
                have hka : Keeps (fun _ => False) W6 (W6.alloc (.cells #[.string y.k, .int .i64 y.n, .string y.t, .slice zp zl zc] T)) := (Keeps.refl _ _).alloc _
                obtain ⟨hI7, hk7⟩ := HI.out.push' (HI.out.news |> fun _ => hsz) HDF.out hysz.out HO6.out HN6.out HK56.out (fun b hb => by omega) hka hown7 hgrow7 (by simpa using hat7) hlt7
                have hlow : ∀ b, (Value.slice vp vl vc).ownBlock = some b → W4.heap.size ≤ b := fun b hb => (HI.out.lo hb).1
                have hk67 : Keeps (fun b => W4.heap.size ≤ b) W6 w7 := (hka.mono fun _ h _ => h.elim).trans' hk7 (fun b hb _ => hlow b hb)
                have hk78 : Keeps (fun b => b = tb) w7 (w7.setCell ⟨tb, 3, none⟩ (.slice (some ⟨gg, 0, none⟩) (j + 1) cap)) := (Keeps.refl (fun b => b = tb) w7).setCell (p := ⟨tb, 3, none⟩) (fun _ => rfl) _
                have hu77 := (hk67.block _ htb6 (by omega)).trans HU6.out
                have hr77 := (hk67.block _ (heap_lt HRes6.out) (by omega)).trans HRes6.out
                have hR77 := (hk67.block _ (heap_lt HR6.out) (by omega)).trans HR6.out
                go_roundg (gk - 1)
                case measure => have := HM.out; omega
                case rel =>
                  refine ⟨j + 1, by have := HM.out; omega, by go_num, q2, lj ++ l2, some ⟨gg, 0, none⟩, j + 1, cap, _, _, HP.out.step HDF.out HRr.out, ?_, hI7.keeps hk78 (fun b hb => by omega), ?_, (hk78.block _ (heap_lt hr77) (by omega)).trans hr77, (hk78.block _ (heap_lt hR77) (fun e => hRtb e)).trans hR77, ?_, ?_⟩
                  · have := wlk1_fit HQJ.out (by rw [HRr.out])
                    rwa [HRr.out] at this
                  · rw [heap_set hu77]; rfl
                  · refine ((HKj.out.trans HK56.out).trans' hk67 (fun b hb hl => ?_)).trans' hk78 (fun b hb hl => by omega)
                    omega
                  · have h1 := hk67.size
                    have h2 := hk78.size
                    have h3 := HK56.out.size
                    omega
              · dsimp only at hr1
                subst hr1
                have hwk : Hid ((wlk1 k t c' d q).2.1 = false) := by show (wlk1 k t c' d q).2.1 = false; rw [HB.out, HP.out.stop HDF.out HRr.out]
                have hres5l := heap_lt HRes5.out
                obtain ⟨W6, hW6⟩ : ∃ W6, W6 = W5.alloc (.cells (four e0 0 e0 none 0 0) T) := ⟨_, rfl⟩
                have hk6 : Keeps (fun _ => False) W5 W6 := by rw [hW6]; exact (Keeps.refl _ _).alloc _
                have hres6 := hk6.heap HRes5.out
                have HW6 := Lib.hid hW6
                have HRes6 := Lib.hid hres6
                have HK6 := Lib.hid (HK5.out.trans' hk6 (fun _ h => h.elim))
                clear hW6 hres6 hk6
                go_upto_region 13 with fail
                rw [← HW6.out]
                obtain ⟨r0, r1, r2, r3, f0, f1, f2, f3⟩ := box4 HRes6.out
                go_wp2_with fail
                have hbx : ((((W6.setCell ⟨w.heap.size, 0, none⟩ (.string e0)).setCell ⟨w.heap.size, 1, none⟩ (.int .i64 0)).setCell ⟨w.heap.size, 2, none⟩ (.string e0)).setCell ⟨w.heap.size, 3, none⟩ (.slice none 0 0)).heap[w.heap.size]? = some (.cells (four e0 0 e0 none 0 0) T (0, 0)) := by
                  rw [heap_set (heap_set (heap_set (heap_set HRes6.out _ _) _ _) _ _) _ _]; rfl
                obtain ⟨q0, q1, q2', q3, _⟩ := box4 hbx
                exact bodyPost_ret (v := .tuple #[tv e0 0 e0 none 0 0, .bool false]) (by simp [results, Try.results61, go_sem, q0, q1, q2', q3]) rfl ⟨(HKj.out.trans HK6.out).trans' (Keeps.four W6 w.heap.size (.string e0) (.int .i64 0) (.string e0) (.slice none 0 0)) (fun x hx hl => by omega), .inr ⟨hwk.out, rfl⟩⟩
            · have hdone := Lib.hid (HP.out.done (by rw [hclen.out]; omega))
              have hjl : Hid (c'.len = j) := by have := hclen.out; have := HM.out; show c'.len = j; omega
              obtain ⟨r0, r1, r2, r3, f0, f1, f2, f3⟩ := box4 HRes.out
              obtain ⟨u0, u1, u2, u3, _⟩ := box4 HU.out
              go_wp2_with fail
              have hbx : ((((wr.setCell ⟨w.heap.size, 0, none⟩ (.string k)).setCell ⟨w.heap.size, 1, none⟩ (.int .i64 n)).setCell ⟨w.heap.size, 2, none⟩ (.string t)).setCell ⟨w.heap.size, 3, none⟩ (.slice vp vl vc)).heap[w.heap.size]? = some (.cells (four k n t vp vl vc) T (0, 0)) := by
                rw [heap_set (heap_set (heap_set (heap_set HRes.out _ _) _ _) _ _) _ _]; rfl
              obtain ⟨q0, q1, q2, q3, _⟩ := box4 hbx
              have h4 := Keeps.four wr w.heap.size (.string k) (.int .i64 n) (.string t) (.slice vp vl vc)
              have hown := HI.out.own hjl.out
              refine bodyPost_ret (v := .tuple #[tv k n t vp vl vc, .bool true]) (by simp [results, Try.results61, go_sem, q0, q1, q2, q3]) rfl ⟨HKj.out.trans' h4 (fun x hx hl => by omega), .inl ⟨?_, vp, vl, vc, _, rfl, hown.keeps h4 (fun x hx => ⟨HI.out.news.hi x hx, fun e => by have := HI.out.news.lo x hx; omega⟩), (HI.out.news.keeps h4).mono (by omega), ?_⟩⟩
              · rw [HB.out, hdone.out]
              · rw [HB.out, hdone.out]
                exact (h4.block _ (heap_lt HRj.out) hRw).trans HRj.out
end Go.Proofs.Ytccoihmibkpedaa
