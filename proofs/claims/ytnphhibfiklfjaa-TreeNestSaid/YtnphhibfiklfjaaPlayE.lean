/-
  espalierlaw4.each: its walk.
-/
import Derived.Test.YtnphhibfiklfjaaQuietR
import Derived.Test.YtnphhibfiklfjaaAll
import Derived.Test.YtnphhibfiklfjaaEach2
import Derived.Test.YtnphhibfiklfjaaEqPath
import Derived.Test.YtnphhibfiklfjaaPathsJ
import Derived.Deep.Cut
set_option linter.unusedVariables false
set_option linter.unusedSimpArgs false
namespace Go.Proofs.Ytnphhibfiklfjaa
open Go.RowKit Go.Shelf
attribute [local go_sem] Oper.semAt_some

abbrev OT : TypeId := 51
abbrev opc (kd : Int) (x u : Nd) (cp up : Option Addr) (cl cc ul uc : Nat) (pp : Option Addr) (pl pc : Nat) (st : Int) : Array Value := #[.int .i64 kd, .string x.k, .int .i64 x.n, .string x.t, .slice cp cl cc, .string u.k, .int .i64 u.n, .string u.t, .slice up ul uc, .slice pp pl pc, .int .i64 st]
abbrev opv (kd : Int) (x u : Nd) (cp up : Option Addr) (cl cc ul uc : Nat) (pp : Option Addr) (pl pc : Nat) (st : Int) : Value := .agg (opc kd x u cp up cl cc ul uc pp pl pc st)
theorem boxO {W : World} {b : Nat} {kd : Int} {x u : Nd} {cp up : Option Addr} {cl cc ul uc : Nat} {pp : Option Addr} {pl pc : Nat} {st : Int} (h : W.heap[b]? = some (.cells (opc kd x u cp up cl cc ul uc pp pl pc st) OT (0, 0))) :
    (W.cell? ⟨b, 0, none⟩ = some (.int .i64 kd) ∧ W.cell? ⟨b, 9, none⟩ = some (.slice pp pl pc) ∧ W.cell? ⟨b, 10, none⟩ = some (.int .i64 st)) ∧
    (W.cell? ⟨b, 1, none⟩ = some (.string x.k) ∧ W.cell? ⟨b, 2, none⟩ = some (.int .i64 x.n) ∧ W.cell? ⟨b, 3, none⟩ = some (.string x.t) ∧ W.cell? ⟨b, 4, none⟩ = some (.slice cp cl cc)) ∧
    (W.cell? ⟨b, 5, none⟩ = some (.string u.k) ∧ W.cell? ⟨b, 6, none⟩ = some (.int .i64 u.n) ∧ W.cell? ⟨b, 7, none⟩ = some (.string u.t) ∧ W.cell? ⟨b, 8, none⟩ = some (.slice up ul uc)) := by
  simp [World.cell?, h]
theorem Row.le' {w : World} {v : Value} {xs : List Int} (h : Row w v xs) : xs.length ≤ 9223372036854775807 := by
  rcases h.form with ⟨_, rfl⟩ | ⟨g, cap, cur, _, _, _, h1, h2, _⟩
  · simp
  · unfold maxLen at h2; omega
/-- The rounds' account: what was there is there, but for the iterator's and the counter. -/
structure EJ (It : Nat → Prop) (W0 : World) (ab : Nat) (v : Int) (B : Nat → Prop) (W : World) : Prop where
  own : ∀ b, b < W0.heap.size → ¬ It b → B b
  keeps : Keeps (fun b => It b ∨ b = ab) W0 W
  at_ : W.heap[ab]? = some (.cells #[.int .i64 v] 3 (0, 0))
theorem EJ.stab {It : Nat → Prop} {W0 : World} {ab : Nat} {v : Int} {B : Nat → Prop} {W W' : World} (hab : ab < W0.heap.size) (hI : ¬ It ab) (h : EJ It W0 ab v B W) (hk : Keeps (fun b => ¬ B b) W W') : EJ It W0 ab v B W' :=
  ⟨h.own, h.keeps.trans' hk (fun b hb hl => by
    by_cases hI : It b
    · exact .inl hI
    · exact absurd (h.own b hl hI) hb), (hk.block _ (heap_lt h.at_) (fun h' => h' (h.own ab hab hI))).trans h.at_⟩
set_option maxRecDepth 100000 in
set_option maxHeartbeats 12800000 in
theorem each_any (kd : Int) (x u : Nd) (cp up : Option Addr) (cl cc ul uc : Nat) (pp : Option Addr) (pl pc : Nat) (st : Int) (A : Nat → Prop) (w : World) (h : Tv w A x.k x.t x.c cp cl cc) (hst : (Lit.int .i64 st).wf = true) :
    Calls Try.prog 53 #[opv kd x u cp up cl cc ul uc pp pl pc st] w fun e w' => e = .returned (.bool true) ∧ Keeps (fun _ => False) w w' := by
  obtain ⟨w2, hw2⟩ : ∃ w2, w2 = (w.alloc (.cells (opc kd x u cp up cl cc ul uc pp pl pc st) OT)).alloc (.cells #[.bool false] 4) := ⟨_, rfl⟩
  have hK2 : Keeps (fun _ => False) w w2 := by rw [hw2]; exact ((Keeps.refl _ w).alloc _).alloc _
  have hs2 : w2.heap.size = w.heap.size + 2 := by rw [hw2]; simp
  have hO : w2.heap[w.heap.size]? = some (.cells (opc kd x u cp up cl cc ul uc pp pl pc st) OT (0, 0)) := by
    rw [hw2]
    exact ((Keeps.refl (fun _ => False) (w.alloc (.cells (opc kd x u cp up cl cc ul uc pp pl pc st) OT))).alloc _).heap (heap_alloc_new _ _)
  have hR : w2.heap[w.heap.size + 1]? = some (.cells #[.bool false] 4 (0, 0)) := by
    rw [hw2]
    have := heap_alloc_new (w.alloc (.cells (opc kd x u cp up cl cc ul uc pp pl pc st) OT)) (.cells #[.bool false] 4)
    simpa using this
  have ht2 := h.top.next hK2
  have HAll := All_any x cp cl cc _ w2 ht2
  have HW := Lib.hid hw2
  obtain ⟨⟨o0, o1, o2⟩, ⟨a0, a1, a2, a3⟩, _⟩ := boxO hO
  clear hw2
  refine calls_marks Try.func53 rfl ?_
  simp only [Try.ntmps53, List.size_toArray, List.length_cons, List.length_nil, Nat.reduceAdd, Nat.reduceSub, Array.replicate_succ, Array.replicate_zero, List.push_toArray, List.append_toArray, List.nil_append, List.cons_append]
  go_upto_region 1 with fail
  rw [← HW.out]
  go_wp2_with fail
  refine HAll.mono ?_
  clear HAll
  rintro e W ⟨lp, ll, lc, xs, bs, rfl, hS, hk3⟩
  obtain ⟨W4, hW4⟩ : ∃ W4, W4 = W.alloc (.cells #[.slice lp ll lc] 40) := ⟨_, rfl⟩
  obtain ⟨wb, hwb⟩ : ∃ b, b = W.heap.size := ⟨_, rfl⟩
  have hk4 : Keeps (fun _ => False) W W4 := by rw [hW4]; exact (Keeps.refl _ _).alloc _
  have hwt : W4.heap[wb]? = some (.cells #[.slice lp ll lc] 40 (0, 0)) := by rw [hW4, hwb]; exact heap_alloc_new _ _
  have hk24 := hk3.trans hk4
  have hwb2 : w2.heap.size ≤ wb := by rw [hwb]; exact hk3.size
  have HS := Lib.hid (hS.keeps hk4 (fun _ h => h.elim))
  have HW4 := Lib.hid hW4
  have HWB := Lib.hid hwb
  obtain ⟨⟨o0, o1, o2⟩, ⟨a0, a1, a2, a3⟩, _⟩ := boxO (hk24.heap hO)
  have HE := Each_any x cp cl cc _ W4 (ht2.next hk24)
  clear hS hk3 hk4 hW4 hwb
  go_upto_region 2 with fail
  rw [← HW4.out, ← HWB.out]
  go_wp2_with fail
  refine HE.mono ?_
  clear HE
  rintro e W5 ⟨gf, lb, It, rfl, heg, hIt, hk5, hit⟩
  have hit5 := hk5.size
  have hItl : ∀ b, It b → b < W5.heap.size := fun b hb => (hIt b hb).2
  have hKA := hk24.trans hk5
  have HO5 := Lib.hid (hKA.heap hO)
  have HR5 := Lib.hid (hKA.heap hR)
  have HWT := Lib.hid (hk5.heap hwt)
  have HS5 := Lib.hid (HS.out.keeps hk5 (fun _ h => h.elim))
  have HE := Lib.hid heg
  have HIT := Lib.hid hit
  have HK := Lib.hid (hK2.trans hKA)
  have hlow : Hid (∀ b, b ≤ wb → ¬ It b) := Lib.hid fun b hb h => by have := (hIt b h).1; have := heap_lt hwt; omega
  have hwb5 : wb < W5.heap.size := Nat.lt_of_lt_of_le (heap_lt hwt) hit5
  obtain ⟨N, hN⟩ : ∃ N, (eachL x).length = N := ⟨_, rfl⟩
  have hll : ll = N := by
    rcases HS.out.row.2 with ⟨h1, h2⟩ | ⟨g', cap', cur, h1, h2, _⟩
    · simp only [Value.slice.injEq] at h1; omega
    · simp only [Value.slice.injEq] at h1; omega
  rw [hN] at hit
  have hNs : N ≤ 1024 := by
    rw [← hN, eachL]
    split
    · rename_i h1; rw [pre_len]; have := h1.1; simp only [Nd.nodes] at this; omega
    · simp
  subst hll
  have HN := Lib.hid hN
  have HK5 := Lib.hid hk5
  have hW4l : wb < W4.heap.size := heap_lt hwt
  clear hN heg hit hk5 hwt hk24 hKA hO hR HW HW4 HWB o0 o1 o2 a0 a1 a2 a3 ht2
  go_wp2_with fail
  refine wp_loop_ghost_k (fun m a W => ∃ (ds : List Deferred) (u5 u6 u7 u8 u9 u10 u11 u12 u13 u14 u15 u16 u17 u18 u19 u20 u21 u22 u23 u24 u25 u26 u27 u28 u29 u30 u31 u32 u33 u34 u35 u36 u37 u38 u39 u40 u41 u42 u43 u44 u45 u46 u47 u48 u49 u50 u51 u52 u53 u54 u55 u56 u57 u58 u59 u60 u61 u62 u63 u64 u65 u66 u67 u68 u69 u70 u71 u72 u73 u74 u75 u76 u77 : Value), (∃ (r : Nat) (Ds : List Nat), r + m = 2 ∧ u5 = .int .i64 r ∧ ds = Ds.map markOf ∧ Ds.Nodup ∧ (∀ D ∈ Ds, W5.heap.size ≤ D ∧ W.heap[D]? = some (.deferred (some []))) ∧ Keeps (fun _ => False) W5 W) ∧ a = { tmps := #[opv kd x u cp up cl cc ul uc pp pl pc st, .pointer (some ⟨w.heap.size, 0, none⟩), .pointer (some ⟨w.heap.size + 1, 0, none⟩), .pointer (some ⟨wb, 0, none⟩), .func (.func gf) #[] lb, u5, u6, u7, u8, u9, u10, u11, u12, u13, u14, u15, u16, u17, u18, u19, u20, u21, u22, u23, u24, u25, u26, u27, u28, u29, u30, u31, u32, u33, u34, u35, u36, u37, u38, u39, u40, u41, u42, u43, u44, u45, u46, u47, u48, u49, u50, u51, u52, u53, u54, u55, u56, u57, u58, u59, u60, u61, u62, u63, u64, u65, u66, u67, u68, u69, u70, u71, u72, u73, u74, u75, u76, u77], defers := ds }) 2 ?_ ?_
  · refine ⟨_, _, _, _, _, _, _, _, _, _, _, _, _, _, _, _, _, _, _, _, _, _, _, _, _, _, _, _, _, _, _, _, _, _, _, _, _, _, _, _, _, _, _, _, _, _, _, _, _, _, _, _, _, _, _, _, _, _, _, _, _, _, _, _, _, _, _, _, _, _, _, _, _, _, ?_, rfl⟩
    exact ⟨0, [], rfl, rfl, rfl, List.nodup_nil, fun _ h => by simp at h, Keeps.refl _ _⟩
  · intro gk a W hinv J K hJ hKK
    obtain ⟨ds, hinv⟩ := hinv
    obtain ⟨u5, hinv⟩ := hinv
    obtain ⟨u6, hinv⟩ := hinv
    obtain ⟨u7, hinv⟩ := hinv
    obtain ⟨u8, hinv⟩ := hinv
    obtain ⟨u9, hinv⟩ := hinv
    obtain ⟨u10, hinv⟩ := hinv
    obtain ⟨u11, hinv⟩ := hinv
    obtain ⟨u12, hinv⟩ := hinv
    obtain ⟨u13, hinv⟩ := hinv
    obtain ⟨u14, hinv⟩ := hinv
    obtain ⟨u15, hinv⟩ := hinv
    obtain ⟨u16, hinv⟩ := hinv
    obtain ⟨u17, hinv⟩ := hinv
    obtain ⟨u18, hinv⟩ := hinv
    obtain ⟨u19, hinv⟩ := hinv
    obtain ⟨u20, hinv⟩ := hinv
    obtain ⟨u21, hinv⟩ := hinv
    obtain ⟨u22, hinv⟩ := hinv
    obtain ⟨u23, hinv⟩ := hinv
    obtain ⟨u24, hinv⟩ := hinv
    obtain ⟨u25, hinv⟩ := hinv
    obtain ⟨u26, hinv⟩ := hinv
    obtain ⟨u27, hinv⟩ := hinv
    obtain ⟨u28, hinv⟩ := hinv
    obtain ⟨u29, hinv⟩ := hinv
    obtain ⟨u30, hinv⟩ := hinv
    obtain ⟨u31, hinv⟩ := hinv
    obtain ⟨u32, hinv⟩ := hinv
    obtain ⟨u33, hinv⟩ := hinv
    obtain ⟨u34, hinv⟩ := hinv
    obtain ⟨u35, hinv⟩ := hinv
    obtain ⟨u36, hinv⟩ := hinv
    obtain ⟨u37, hinv⟩ := hinv
    obtain ⟨u38, hinv⟩ := hinv
    obtain ⟨u39, hinv⟩ := hinv
    obtain ⟨u40, hinv⟩ := hinv
    obtain ⟨u41, hinv⟩ := hinv
    obtain ⟨u42, hinv⟩ := hinv
    obtain ⟨u43, hinv⟩ := hinv
    obtain ⟨u44, hinv⟩ := hinv
    obtain ⟨u45, hinv⟩ := hinv
    obtain ⟨u46, hinv⟩ := hinv
    obtain ⟨u47, hinv⟩ := hinv
    obtain ⟨u48, hinv⟩ := hinv
    obtain ⟨u49, hinv⟩ := hinv
    obtain ⟨u50, hinv⟩ := hinv
    obtain ⟨u51, hinv⟩ := hinv
    obtain ⟨u52, hinv⟩ := hinv
    obtain ⟨u53, hinv⟩ := hinv
    obtain ⟨u54, hinv⟩ := hinv
    obtain ⟨u55, hinv⟩ := hinv
    obtain ⟨u56, hinv⟩ := hinv
    obtain ⟨u57, hinv⟩ := hinv
    obtain ⟨u58, hinv⟩ := hinv
    obtain ⟨u59, hinv⟩ := hinv
    obtain ⟨u60, hinv⟩ := hinv
    obtain ⟨u61, hinv⟩ := hinv
    obtain ⟨u62, hinv⟩ := hinv
    obtain ⟨u63, hinv⟩ := hinv
    obtain ⟨u64, hinv⟩ := hinv
    obtain ⟨u65, hinv⟩ := hinv
    obtain ⟨u66, hinv⟩ := hinv
    obtain ⟨u67, hinv⟩ := hinv
    obtain ⟨u68, hinv⟩ := hinv
    obtain ⟨u69, hinv⟩ := hinv
    obtain ⟨u70, hinv⟩ := hinv
    obtain ⟨u71, hinv⟩ := hinv
    obtain ⟨u72, hinv⟩ := hinv
    obtain ⟨u73, hinv⟩ := hinv
    obtain ⟨u74, hinv⟩ := hinv
    obtain ⟨u75, hinv⟩ := hinv
    obtain ⟨u76, hinv⟩ := hinv
    obtain ⟨u77, hinv⟩ := hinv
    obtain ⟨⟨r, Ds, hrm, hr5, hds, hnd, hDs, hkW⟩, ha⟩ := hinv
    subst ha
    subst hr5
    subst hds
    dsimp only
    have hsW := hkW.size
    obtain ⟨⟨o0, o1, o2⟩, _, _⟩ := boxO (hkW.heap HO5.out)
    have hwtW := hkW.heap HWT.out
    have w0 : W.cell? ⟨wb, 0, none⟩ = some (.slice lp ll lc) := by simp [World.cell?, hwtW]
    have hwW : wb < W.heap.size := by omega
    have HND := Lib.hid hnd
    have HDS := Lib.hid hDs
    have HKW := Lib.hid hkW
    clear hnd hDs hkW
    by_cases hr2 : r < 2
    · obtain ⟨ab, hab⟩ : ∃ b, b = W.heap.size := ⟨_, rfl⟩
      obtain ⟨W6, hW6⟩ : ∃ W6, W6 = (W.alloc (.cells #[.int .i64 0] 3)).alloc (.cells #[.int .i64 ((ll : Int) + 1)] 3) := ⟨_, rfl⟩
      have hk6 : Keeps (fun _ => False) W W6 := by rw [hW6]; exact ((Keeps.refl _ _).alloc _).alloc _
      have hA6 : W6.heap[ab]? = some (.cells #[.int .i64 0] 3 (0, 0)) := by
        rw [hW6, hab]
        exact ((Keeps.refl (fun _ => False) (W.alloc (.cells #[.int .i64 0] 3))).alloc _).heap (heap_alloc_new _ _)
      have hS6 : W6.heap[ab + 1]? = some (.cells #[.int .i64 ((ll : Int) + 1)] 3 (0, 0)) := by
        rw [hW6, hab]
        have := heap_alloc_new (W.alloc (.cells #[.int .i64 0] 3)) (.cells #[.int .i64 ((ll : Int) + 1)] 3)
        simpa using this
      have HW6 := Lib.hid hW6
      have HAB := Lib.hid hab
      have hlz : (ll : Int) ≤ 1024 := by omega
      clear hW6 hab
      go_upto_region 8 with fail
      rw [← HW6.out, ← HAB.out]
      clear w0 o0 o1 o2
      obtain ⟨⟨o0, o1, o2⟩, _, _⟩ := boxO (hk6.heap (HKW.out.heap HO5.out))
      have w0 : W6.cell? ⟨wb, 0, none⟩ = some (.slice lp ll lc) := by simp [World.cell?, hk6.heap hwtW]
      have s0 : W6.cell? ⟨ab + 1, 0, none⟩ = some (.int .i64 ((ll : Int) + 1)) := by simp [World.cell?, hS6]
      have s1 : W6.frozen? ⟨ab + 1, 0, none⟩ = false := by simp [World.frozen?, hS6]
      go_cut [36] from 10 (fun c wx => wx = W6 ∧ ∃ b, c = .bool b ∧ (b = true → 0 ≤ st ∧ st < (ll : Int)))
      case first =>
        rcases (show r = 0 ∨ r = 1 by omega) with rfl | rfl
        · by_cases h1 : 0 ≤ st
          · by_cases h2 : st < (ll : Int)
            · go_wp2_with fail
              go_meet
              case rel => exact ⟨rfl, _, rfl, fun _ => ⟨h1, h2⟩⟩
            · go_wp2_with fail
              go_meet
              case rel => exact ⟨rfl, false, by simp [h2], fun h => by simp at h⟩
          · go_wp2_with fail
            go_meet
            case rel => exact ⟨rfl, false, by simp [h1], fun h => by simp at h⟩
        · go_wp2_with fail
          go_meet
          case rel => exact ⟨rfl, false, rfl, fun h => by simp at h⟩
      case rest =>
        obtain ⟨hwc, b, rfl, hb⟩ := hcut
        subst hwc
        obtain ⟨V5, hV5⟩ : ∃ V, V = wc := ⟨_, rfl⟩
        subst hV5
        go_upto_if 36 with fail
        go_cut [] from 10 (fun wx => ∃ sp : Int, wx.heap[ab]? = some (.cells #[.int .i64 0] 3 (0, 0)) ∧ wx.heap[ab + 1]? = some (.cells #[.int .i64 sp] 3 (0, 0)) ∧ 1 ≤ sp ∧ (sp = (ll : Int) + 1 ∨ sp ≤ (ll : Int)) ∧ Keeps (fun _ => False) W wx)
        case first =>
          cases b with
          | false =>
            go_wp2_with fail
            go_meet
            case rel => exact ⟨(ll : Int) + 1, hA6, hS6, by omega, .inl rfl, hk6⟩
          | true =>
            obtain ⟨h1, h2⟩ := hb rfl
            go_wp2_with fail
            go_meet
            case rel =>
              refine ⟨st + 1, (Below.heap_setCell _ _ _ _ (show ab ≠ ab + 1 by omega)).trans hA6, ?_, by omega, .inr (by omega), ?_⟩
              · rw [heap_set hS6]; rfl
              · exact hk6.trans' ((Keeps.refl (fun b => b = ab + 1) V5).setCell (p := ⟨ab + 1, 0, none⟩) (fun _ => rfl) _) (fun b hb hl => by have := HAB.out; omega)
        case rest =>
          obtain ⟨V6, hV6⟩ : ∃ V, V = wc := ⟨_, rfl⟩
          subst hV6
          obtain ⟨sp, hA, hSp, hsp1, hsp2, hkV⟩ := hcut
          have hk56 := HKW.out.trans hkV
          have hs56 := hk56.size
          have habW : W.heap.size ≤ ab := by have := HAB.out; omega
          have habV := heap_lt hA
          have hspV := heap_lt hSp
          have habI : ¬ It ab := fun h => by have := hItl _ h; omega
          have hspI : ¬ It (ab + 1) := fun h => by have := hItl _ h; omega
          clear w0 o0 o1 o2 s0 s1 hA6 hS6 hb hk6 HW6 hwtW
          go_wp2_with fail
          refine (wpIn_wide (n := 1 + 2)).1 (range_law 1 (gf := gf) (lb := lb) (by rfl) HE.out HIT.out (hk56.mono fun _ h _ => h.elim) hItl (fun j vs Y W h => by obtain ⟨p, x, pv, cp, cl, cc, bs, _, rfl, _⟩ := h; rfl)
            (fun j B W => EJ It V6 ab j B W ∧ (j : Int) < sp) (fun c B W => c = .exit 2 ∧ EJ It V6 ab sp B W ∧ sp ≤ (ll : Int)) (fun j B W W' h hk => ⟨h.1.stab habV habI hk, h.2⟩) (fun c B W W' h hk => ⟨h.1, h.2.1.stab habV habI hk, h.2.2⟩) (fun b => b < V6.heap.size ∧ ¬ It b) (fun b hb => hb)
            ⟨⟨fun b h1 h2 => ⟨h1, h2⟩, Keeps.refl _ _, hA⟩, by show ((0 : Nat) : Int) < sp; omega⟩ ?round ?done ?stop)
          case round =>
            rintro j B2 Y vs W1 hj hBl ⟨hJ, hjs⟩ ⟨p, y, pv, cp', cl', cc', bs', hL, rfl, hrow, hown, hsz, hYe⟩ hY hBD hlt
            have hgy := pre_sub
            obtain ⟨pp1, pc1, rfl, hints⟩ := hrow.ints hrow.le'
            gi_wp2
            obtain ⟨yb, hyb⟩ : ∃ yb, yb = W1.heap.size := ⟨_, rfl⟩
            obtain ⟨W7, hW7⟩ : ∃ W7, W7 = W1.alloc (.cells (four y.k y.n y.t cp' cl' cc') T) := ⟨_, rfl⟩
            have hka : Keeps (fun _ => False) W1 W7 := by rw [hW7]; exact (Keeps.refl _ W1).alloc _
            have hby : W7.heap[yb]? = some (.cells (four y.k y.n y.t cp' cl' cc') T (0, 0)) := by rw [hW7, hyb]; exact heap_alloc_new _ _
            rw [← hW7, ← hyb]
            refine ⟨hka.mono fun _ h _ => h.elim, fun W₂ hk2 => ?_⟩
            have hW2 : Keeps (fun b => b = V6.heap.size + 1) W1 W₂ := (hka.mono (S' := fun b => b = V6.heap.size + 1) fun _ h _ => h.elim).trans' hk2 (fun b hb _ => hb)
            have hs1 := hJ.keeps.size
            have hs2 := hW2.size
            have hsV := hkV.size
            have hjN : j < ll := by rw [← HN.out]; exact hj
            -- what the iterator does not touch
            have hK5 : Keeps (fun b => It b) W5 W₂ := (hk56.mono (S' := fun b => It b) fun _ h _ => h.elim).trans' (hJ.keeps.trans' (S' := fun b => b = V6.heap.size + 1) (hW2) (fun b hb hl => by omega)) (fun b hb hl => by
              rcases hb with hb | hb
              · exact hb
              · omega)
            have hK4 : Keeps (fun b => It b) W4 W₂ := (HK5.out.mono (S' := fun b => It b) fun _ h _ => h.elim).trans hK5
            have hS2 := HS.out.keeps hK4 (fun b hb => .inr (hIt b hb).1)
            have hA2 : W₂.heap[ab]? = some (.cells #[.int .i64 (j : Int)] 3 (0, 0)) := (hW2.block _ (heap_lt hJ.at_) (by omega)).trans hJ.at_
            have hSp1 : W1.heap[ab + 1]? = some (.cells #[.int .i64 sp] 3 (0, 0)) := (hJ.keeps.block _ hspV (fun h => by rcases h with h | h; exact hspI h; omega)).trans hSp
            have hSp2 : W₂.heap[ab + 1]? = some (.cells #[.int .i64 sp] 3 (0, 0)) := (hW2.block _ (heap_lt hSp1) (by omega)).trans hSp1
            have hWt2 : W₂.heap[wb]? = some (.cells #[.slice lp ll lc] 40 (0, 0)) := (hK5.block _ hwb5 (hlow.out _ (Nat.le_refl _))).trans HWT.out
            have hby : W₂.heap[yb]? = some (.cells (four y.k y.n y.t cp' cl' cc') T (0, 0)) := (hk2.block _ (heap_lt hby) (by omega)).trans hby
            have hYl : ∀ b, (Value.slice pp1 p.length pc1).ownBlock = some b ∨ b ∈ bs' → b < W1.heap.size ∧ b ≠ V6.heap.size + 1 := fun b hb => by
              have := hY b (by rw [hYe]; exact hb)
              omega
            have hi2 := hints.keeps hW2 (fun b hb e => (hYl b (.inl hb)).2 e)
            have ht2 := (hown.keeps hW2 (fun b hb => ⟨(hYl b (.inr hb)).1, (hYl b (.inr hb)).2⟩)).tv hsz
            obtain ⟨pv2, cp2, cl2, cc2, bs2, g0, g1, g2, g3, g4, hsz2, hrow2, hown2, _⟩ := hS2.rep.at_ hL
            obtain ⟨pp2, pc2, rfl, hints2⟩ := hrow2.ints hrow2.le'
            have hty := hown2.tv hsz2
            have hform : ∃ g, lp = some ⟨g, 0, none⟩ := by
              rcases hS2.row.2 with ⟨h1, h2⟩ | ⟨g', cap', cur, h1, h2, _⟩
              · simp only [Value.slice.injEq] at h1; omega
              · simp only [Value.slice.injEq] at h1; exact ⟨g', h1.1⟩
            obtain ⟨g, rfl⟩ := hform
            have hrowL := hS2.row
            rw [HN.out] at hrowL
            have c0 : W₂.cell? ⟨g, j * 5, none⟩ = some (.slice pp2 p.length pc2) := (hrowL.cellAt _ (by omega)).trans g0
            have c1 : W₂.cell? ⟨g, j * 5 + 1, none⟩ = some (.string y.k) := (hrowL.cellAt _ (by omega)).trans g1
            have c2 : W₂.cell? ⟨g, j * 5 + 2, none⟩ = some (.int .i64 y.n) := (hrowL.cellAt _ (by omega)).trans g2
            have c3 : W₂.cell? ⟨g, j * 5 + 3, none⟩ = some (.string y.t) := (hrowL.cellAt _ (by omega)).trans g3
            have c4 : W₂.cell? ⟨g, j * 5 + 4, none⟩ = some (.slice cp2 cl2 cc2) := (hrowL.cellAt _ (by omega)).trans g4
            have a0 : W₂.cell? ⟨ab, 0, none⟩ = some (.int .i64 (j : Int)) := by simp [World.cell?, hA2]
            have w0 : W₂.cell? ⟨wb, 0, none⟩ = some (.slice (some ⟨g, 0, none⟩) ll lc) := by simp [World.cell?, hWt2]
            obtain ⟨y0, y1, y2, y3, _⟩ := box4 hby
            have hEP : Hid (∀ W, Keeps (fun _ => False) W₂ W → Calls Try.prog 16 #[.slice pp1 p.length pc1, .slice pp2 p.length pc2] W fun e w' => e = .returned (.bool true) ∧ Keeps (fun _ => False) W w') := Lib.hid fun W hk => by
              have := EqPath_any p p pp1 pp2 p.length p.length pc1 pc2 _ _ W (hi2.keeps hk (fun _ _ h => h)) (hints2.keeps hk (fun _ _ h => h))
              rwa [decide_eq_true rfl] at this
            have hEQ : Hid (∀ W, Keeps (fun _ => False) W₂ W → Calls Try.prog 17 #[tv y.k y.n y.t cp' cl' cc', tv y.k y.n y.t cp2 cl2 cc2] W fun e w' => e = .returned (.bool true) ∧ Keeps (fun _ => False) W w') := Lib.hid fun W hk => by
              have := Eq_any (y.c.nodes + 1) y.k y.k y.n y.n y.t y.t y.c y.c _ _ cp' cp2 cl' cc' cl2 cc2 W (by omega) (ht2.next hk) (hty.next hk)
              rwa [eqB_self] at this
            have ka := fun d os => cell_regrown a0 d os
            have kw := fun d os => cell_regrown w0 d os
            have kc0 := fun d os => cell_regrown c0 d os
            have kc1 := fun d os => cell_regrown c1 d os
            have kc2 := fun d os => cell_regrown c2 d os
            have kc3 := fun d os => cell_regrown c3 d os
            have kc4 := fun d os => cell_regrown c4 d os
            have ky0 := fun d os => cell_regrown y0 d os
            have ky1 := fun d os => cell_regrown y1 d os
            have ky2 := fun d os => cell_regrown y2 d os
            have ky3 := fun d os => cell_regrown y3 d os
            have hj0 : (0 : Int) ≤ (j : Int) := Int.natCast_nonneg _
            have hj1 : (j : Int) < (ll : Int) := by omega
            have hj2 : ¬ (ll : Int) ≤ (j : Int) := by omega
            have hj3 : decide ((ll : Int) ≤ (j : Int)) = false := by simp; omega
            have HA2 := Lib.hid hA2
            have HSp2 := Lib.hid hSp2
            have HJ := Lib.hid hJ
            have HW2 := Lib.hid hW2
            have HB := Lib.hid hBl
            clear hA2 hSp2 hSp1 hJ hW2 hBl hYe hYl hBD hY hL hgy hrow hown hints hi2 ht2 hints2 hty hS2 hK4 hK5 hrowL hWt2 hby g0 g1 g2 g3 g4 hrow2 hown2 hk2 hka hyb hW7 c0 c1 c2 c3 c4 a0 w0 y0 y1 y2 y3 hA hSp hk56 hkV
            gi_wp2_with fail
            refine region_round (by kernel_rfl) (by kernel_rfl) (by kernel_rfl) ?_
            repeat (refine wpQuietIn_step (fun _ _ _ _ => trivial) (fun K hK => ?_); go_simp; first | (refine hK _ ?_; clear hK K) | (apply Exists.intro; refine ⟨fun _ => ?_, hK _ ?_⟩; (first | exact quiet_call hEP.out | exact quiet_call hEQ.out | exact ⟨trivial, quiet_call hEP.out⟩ | exact ⟨trivial, quiet_call hEQ.out⟩ | exact ⟨by simp, quiet_call hEP.out⟩ | exact ⟨by simp, quiet_call hEQ.out⟩); clear hK K))
            refine wpQuietIn_nil ?_
            intro W8 hk8
            have hA8 := hk8.heap HA2.out
            have hSp8 := hk8.heap HSp2.out
            have a0 : W8.cell? ⟨ab, 0, none⟩ = some (.int .i64 (j : Int)) := by simp [World.cell?, hA8]
            have a1 : W8.frozen? ⟨ab, 0, none⟩ = false := by simp [World.frozen?, hA8]
            have s0 : W8.cell? ⟨ab + 1, 0, none⟩ = some (.int .i64 sp) := by simp [World.cell?, hSp8]
            have hend : Hid ((∀ b, B2 b → (B2 b ∨ Y b ∨ W1.heap.size ≤ b) ∧ b < (W8.setCell ⟨ab, 0, none⟩ (.int .i64 ((j : Int) + 1))).heap.size) ∧ Keeps (fun b => B2 b ∨ Y b) W₂ (W8.setCell ⟨ab, 0, none⟩ (.int .i64 ((j : Int) + 1))) ∧ EJ It V6 ab ((j : Int) + 1) B2 (W8.setCell ⟨ab, 0, none⟩ (.int .i64 ((j : Int) + 1)))) := by
              have hse := (Keeps.refl (fun b => b = ab) W8).setCell (p := ⟨ab, 0, none⟩) (fun _ => rfl) (.int .i64 ((j : Int) + 1))
              have hsz := hk8.size
              refine ⟨fun b hb => ⟨.inl hb, ?_⟩, ?_, HJ.out.own, ?_, ?_⟩
              · have h1 := HB.out b hb
                have h2 := hse.size
                omega
              · exact (hk8.mono (S' := fun b => B2 b ∨ Y b) fun _ h _ => h.elim).trans' hse (fun b hb hl => .inl (hb ▸ HJ.out.own ab habV habI))
              · exact ((HJ.out.keeps.trans' HW2.out (fun b hb hl => by omega)).trans' hk8 (fun _ h _ => h.elim)).trans' hse (fun b hb hl => .inr hb)
              · rw [heap_set hA8]; rfl
            clear hA8 hSp8 ka kw kc0 kc1 kc2 kc3 kc4 ky0 ky1 ky2 ky3 hEP hEQ hk8 hj3
            by_cases hsp : (j : Int) + 1 = sp
            · have hsq : ((j : Int) + 1 == sp) = true := by simp [hsp]
              gi_wp2_with fail
              obtain ⟨e1, e2, e3⟩ := hend.out
              rw [hsp] at e1 e2 e3
              exact ⟨B2, e1, e2, rfl, e3, by omega⟩
            · have hsq : ((j : Int) + 1 == sp) = false := by simp [hsp]
              gi_wp2_with fail
              obtain ⟨e1, e2, e3⟩ := hend.out
              have e4 : (((j + 1 : Nat)) : Int) = (j : Int) + 1 := by omega
              exact ⟨B2, e1, e2, (show EJ It V6 ab (((j + 1 : Nat)) : Int) B2 _ by rw [e4]; exact e3), (show (((j + 1 : Nat)) : Int) < sp by omega)⟩
          case done =>
            rintro B W1 ⟨hJ, hjs⟩ hD hkI hBne
            rw [HN.out] at hJ hjs
            obtain rfl : sp = (ll : Int) + 1 := by omega
            have hkP : Keeps (fun b => b = ab) V6 W1 := Keeps.both hJ.keeps hkI
            have hS1 := (hkP.block _ hspV (by omega)).trans hSp
            have hW1 := (hkP.block _ (heap_lt (hk56.heap HWT.out)) (by omega)).trans (hk56.heap HWT.out)
            have a0 : W1.cell? ⟨ab, 0, none⟩ = some (.int .i64 (ll : Int)) := by simp [World.cell?, hJ.at_]
            have s0 : W1.cell? ⟨ab + 1, 0, none⟩ = some (.int .i64 ((ll : Int) + 1)) := by simp [World.cell?, hS1]
            have w0 : W1.cell? ⟨wb, 0, none⟩ = some (.slice lp ll lc) := by simp [World.cell?, hW1]
            have hrel : Hid (∃ Ds2 : List Nat, ({ target := Target.collected V6.heap.size, args := #[] } :: List.map markOf Ds : List Deferred) = Ds2.map markOf ∧ Ds2.Nodup ∧ (∀ D ∈ Ds2, W5.heap.size ≤ D ∧ W1.heap[D]? = some (.deferred (some []))) ∧ Keeps (fun _ => False) W5 W1) := by
              have hol : ∀ D ∈ Ds, D < W.heap.size := fun D hD' => heap_lt (HDS.out D hD').2
              refine ⟨V6.heap.size :: Ds, rfl, List.nodup_cons.2 ⟨fun h => by have := hol _ h; have := hkV.size; omega, HND.out⟩, fun D hD' => ?_, hk56.trans' hkP (fun b hb hl => by omega)⟩
              rcases List.mem_cons.1 hD' with rfl | hD'
              · exact ⟨hs56, hD⟩
              · have h1 := hol _ hD'
                have h2 := HDS.out D hD'
                exact ⟨h2.1, (hkP.block _ (by have := hkV.size; omega) (by omega)).trans (hkV.heap h2.2)⟩
            clear hkP hS1 hW1 hJ hD hkI hBne hkV hk56 hA hSp
            have hmin : min ((ll : Int) + 1) (ll : Int) = (ll : Int) := by omega
            go_wp2_with fail
            obtain ⟨Ds2, hd1, hd2, hd3, hd4⟩ := hrel.out
            go_roundg (gk - 1)
            case measure => omega
            case rel => exact ⟨r + 1, Ds2, by omega, by go_num, hd1, hd2, hd3, hd4⟩
          case stop =>
            rintro c B W1 ⟨rfl, hJ, hjs⟩ hD hkI hBne
            have hkP : Keeps (fun b => b = ab) V6 W1 := Keeps.both hJ.keeps hkI
            have hS1 := (hkP.block _ hspV (by omega)).trans hSp
            have hW1 := (hkP.block _ (heap_lt (hk56.heap HWT.out)) (by omega)).trans (hk56.heap HWT.out)
            have a0 : W1.cell? ⟨ab, 0, none⟩ = some (.int .i64 sp) := by simp [World.cell?, hJ.at_]
            have s0 : W1.cell? ⟨ab + 1, 0, none⟩ = some (.int .i64 sp) := by simp [World.cell?, hS1]
            have w0 : W1.cell? ⟨wb, 0, none⟩ = some (.slice lp ll lc) := by simp [World.cell?, hW1]
            have hrel : Hid (∃ Ds2 : List Nat, ({ target := Target.collected V6.heap.size, args := #[] } :: List.map markOf Ds : List Deferred) = Ds2.map markOf ∧ Ds2.Nodup ∧ (∀ D ∈ Ds2, W5.heap.size ≤ D ∧ W1.heap[D]? = some (.deferred (some []))) ∧ Keeps (fun _ => False) W5 W1) := by
              have hol : ∀ D ∈ Ds, D < W.heap.size := fun D hD' => heap_lt (HDS.out D hD').2
              refine ⟨V6.heap.size :: Ds, rfl, List.nodup_cons.2 ⟨fun h => by have := hol _ h; have := hkV.size; omega, HND.out⟩, fun D hD' => ?_, hk56.trans' hkP (fun b hb hl => by omega)⟩
              rcases List.mem_cons.1 hD' with rfl | hD'
              · exact ⟨hs56, hD⟩
              · have h1 := hol _ hD'
                have h2 := HDS.out D hD'
                exact ⟨h2.1, (hkP.block _ (by have := hkV.size; omega) (by omega)).trans (hkV.heap h2.2)⟩
            clear hkP hS1 hW1 hJ hD hkI hBne hkV hk56 hA hSp
            have hmin : min sp (ll : Int) = sp := by omega
            refine wpIn_wide.2 ?_
            go_wp2_with fail
            obtain ⟨Ds2, hd1, hd2, hd3, hd4⟩ := hrel.out
            go_roundg (gk - 1)
            case measure => omega
            case rel => exact ⟨r + 1, Ds2, by omega, by go_num, hd1, hd2, hd3, hd4⟩
    · have hr2' : r = 2 := by omega
      subst hr2'
      have hr1 : W.cell? ⟨w.heap.size + 1, 0, none⟩ = some (.bool false) := by simp [World.cell?, HKW.out.heap HR5.out]
      have hr3 : W.frozen? ⟨w.heap.size + 1, 0, none⟩ = false := by simp [World.frozen?, HKW.out.heap HR5.out]
      clear w0 o0 o1 o2
      go_wp2_with fail
      refine ret_marks Ds _ HND.out (fun D hD => ?_) (fun W' hk => ⟨.bool true, ?_, rfl, ?_⟩)
      · have h1 := HDS.out D hD
        exact (Below.heap_setCell _ _ _ _ (show D ≠ w.heap.size + 1 by omega)).trans h1.2
      · have hres : W'.cell? ⟨w.heap.size + 1, 0, none⟩ = some (.bool true) := by
          have h1 : (W.setCell ⟨w.heap.size + 1, 0, none⟩ (.bool true)).heap[w.heap.size + 1]? = some (.cells #[.bool true] 4 (0, 0)) := by rw [heap_set (HKW.out.heap HR5.out)]; rfl
          have h2 := (hk.block _ (heap_lt h1) (fun h => by have := (HDS.out _ h).1; omega)).trans h1
          simp [World.cell?, h2]
        simp [results, Try.results53, go_sem, hres]
      · have h1 := (HK.out.trans HKW.out).trans' ((Keeps.refl (fun b => b = w.heap.size + 1) W).setCell (p := ⟨w.heap.size + 1, 0, none⟩) (fun _ => rfl) (.bool true)) (fun b hb hl => by omega)
        exact h1.trans' hk (fun b hb hl => by have := (HDS.out _ hb).1; omega)
end Go.Proofs.Ytnphhibfiklfjaa
