/-
  espalierlaw4.TreeFresh: the round's fourth part: names are told and spoilt; the copies are as they were; an iterator is made, then the copy's kids are spoilt.
-/
import Derived.Test.YtnphhibfiklfjaaFreshE

set_option linter.unusedVariables false

set_option linter.unusedSimpArgs false

namespace Go.Proofs.Ytnphhibfiklfjaa

open Go.RowKit Go.Shelf

attribute [local go_sem] Oper.semAt_some

set_option maxRecDepth 1000000 in
set_option maxHeartbeats 12800000 in
theorem freshD {w W0 V : World} {ab ao sl sc pb r ob tb ub D0 D1 : Nat} {Ds : List Nat} {kd : Int} {x u : Nd} {path : List Int} {cp up : Option Addr} {cl cc ul uc : Nat} {pp : Option Addr} {pl pc : Nat} {st : Int} {tp vp : Option Addr} {tl tc vl vc : Nat} {At Au : Nat → Prop} {K K1 : Act → World → Prop} {Q : Exit → Act → World → Prop}
    (hK : Hid (∀ (W' : World) (Ds' : List Nat) (u6 u7 u8 u9 u10 u11 u12 u13 u14 u15 u16 u17 u18 u19 u20 u21 u22 u23 u24 u25 u26 u27 u28 u29 u30 u31 u32 u33 u40 u41 u42 u43 u44 u45 u46 u47 u48 u49 u50 u51 u52 u53 u54 u55 u56 u57 u58 u59 u60 u61 u62 u63 u64 u65 u66 u67 u68 u69 u70 u71 u72 u73 u74 u75 u76 u77 u78 u79 u80 u81 u82 u83 u84 u85 u86 u87 u88 u89 u90 u91 u92 u93 u94 u95 u96 u97 u98 u99 u100 u101 u102 u103 u104 u105 u106 u107 u108 u109 u110 u111 u112 u113 u114 u115 u116 u117 u118 u119 u120 u121 u122 u123 u124 u125 u126 u127 u128 u129 u130 u131 u132 u133 u134 u135 u136 u137 u138 u139 u140 u141 u142 u143 u144 u145 u146 u147 u148 u149 u150 u151 u152 u153 u154 u155 u156 u157 u158 u159 u160 u161 u162 u163 u164 u165 u166 u167 u168 u169 u170 u171 u172 u173 u174 u175 u176 u177 u178 u179 u180 u181 u182 u183 u184 u185 u186 u187 u188 u189 u190 u191 u192 u193 u194 u195 u196 u197 u198 u199 u200 u201 u202 u203 u204 u205 u206 u207 u208 u209 u210 u211 u212 u213 u214 u215 u216 u217 u218 u219 u220 u221 u222 u223 u224 u225 u226 u227 u228 u229 u230 u231 u232 u233 : Value), FI W0 pb (r + 1) Ds' W' → K { tmps := List.toArray ((.slice (some ⟨ab, ao, none⟩) sl sc) :: undef :: (.pointer (some ⟨w.heap.size, 0, none⟩)) :: (.pointer (some ⟨pb + 1, 0, none⟩)) :: (.pointer (some ⟨pb + 1 + 1, 0, none⟩)) :: (.int .i64 (r : Int)) :: u6 :: u7 :: u8 :: u9 :: u10 :: u11 :: u12 :: u13 :: u14 :: u15 :: u16 :: u17 :: u18 :: u19 :: u20 :: u21 :: u22 :: u23 :: u24 :: u25 :: u26 :: u27 :: u28 :: u29 :: u30 :: u31 :: u32 :: u33 :: (.bool true) :: (.bool false) :: (.agg #[.slice none 0 0, .slice none 0 0, .int .i64 0, .slice none 0 0]) :: (.pointer (some ⟨pb, 0, none⟩)) :: (.agg #[.slice none 0 0, .int .i64 0]) :: (.pointer (some ⟨pb + 1 + 1, 0, none⟩)) :: u40 :: u41 :: u42 :: u43 :: u44 :: u45 :: u46 :: u47 :: u48 :: u49 :: u50 :: u51 :: u52 :: u53 :: u54 :: u55 :: u56 :: u57 :: u58 :: u59 :: u60 :: u61 :: u62 :: u63 :: u64 :: u65 :: u66 :: u67 :: u68 :: u69 :: u70 :: u71 :: u72 :: u73 :: u74 :: u75 :: u76 :: u77 :: u78 :: u79 :: u80 :: u81 :: u82 :: u83 :: u84 :: u85 :: u86 :: u87 :: u88 :: u89 :: u90 :: u91 :: u92 :: u93 :: u94 :: u95 :: u96 :: u97 :: u98 :: u99 :: u100 :: u101 :: u102 :: u103 :: u104 :: u105 :: u106 :: u107 :: u108 :: u109 :: u110 :: u111 :: u112 :: u113 :: u114 :: u115 :: u116 :: u117 :: u118 :: u119 :: u120 :: u121 :: u122 :: u123 :: u124 :: u125 :: u126 :: u127 :: u128 :: u129 :: u130 :: u131 :: u132 :: u133 :: u134 :: u135 :: u136 :: u137 :: u138 :: u139 :: u140 :: u141 :: u142 :: u143 :: u144 :: u145 :: u146 :: u147 :: u148 :: u149 :: u150 :: u151 :: u152 :: u153 :: u154 :: u155 :: u156 :: u157 :: u158 :: u159 :: u160 :: u161 :: u162 :: u163 :: u164 :: u165 :: u166 :: u167 :: u168 :: u169 :: u170 :: u171 :: u172 :: u173 :: u174 :: u175 :: u176 :: u177 :: u178 :: u179 :: u180 :: u181 :: u182 :: u183 :: u184 :: u185 :: u186 :: u187 :: u188 :: u189 :: u190 :: u191 :: u192 :: u193 :: u194 :: u195 :: u196 :: u197 :: u198 :: u199 :: u200 :: u201 :: u202 :: u203 :: u204 :: u205 :: u206 :: u207 :: u208 :: u209 :: u210 :: u211 :: u212 :: u213 :: u214 :: u215 :: u216 :: u217 :: u218 :: u219 :: u220 :: u221 :: u222 :: u223 :: u224 :: u225 :: u226 :: u227 :: u228 :: u229 :: u230 :: u231 :: u232 :: u233 :: undef :: undef :: undef :: undef :: undef :: undef :: []), defers := Ds'.map markOf } W'))
    (hR : RS pb ob tb ub D0 Ds kd x u path cp up cl cc ul uc pp pl pc st tp vp tl tc vl vc At Au V) (hbk : BKI (CP pb ob D0 Ds D1) pb ((r + 1) * 125952) (2 * (r + 1)) (2 * (r + 1)) V) (hkeep : Keeps (fun b => pb ≤ b ∧ b ≠ pb + 1) W0 V) (hnd : Ds.Nodup) (hD1 : D0 ≤ D1 ∧ V.heap[D1]? = some (.deferred (some [])))
    (hop : OpAt w ab (ao + r * 11) kd x u path cp up cl cc ul uc pp pl pc st) (hab : ab < w.heap.size) (hkw : Keeps (fun _ => False) w V) (hr : r < sl) (hx : x.c.nodes ≤ 3000) (hu : u.c.nodes ≤ 3000)
    (u9 u10 u11 u12 u13 u14 u15 u16 u17 u18 u19 u20 u21 u22 u23 u24 u25 u26 u27 u28 u29 u30 u31 u32 u33 u40 u41 u42 u43 u44 u45 u46 u47 u48 u49 u50 u51 u52 u53 u54 u55 u56 u57 u58 u59 u60 u61 u62 u63 u64 u65 u66 u67 u68 u69 u70 u71 u72 u73 u74 u75 u76 u77 u78 u79 u80 u81 u82 u83 u84 u85 u86 u87 u88 u89 u90 u91 u92 u93 u94 u95 u96 u97 u98 u99 u100 u101 u102 u103 u104 u105 u106 u107 u108 u109 u110 u111 u112 u113 u114 u115 u116 u117 u118 u119 u120 u121 u122 u123 u124 u125 u126 u127 u128 u129 u130 u131 u132 u133 u134 u135 u136 u137 u138 u139 u140 u141 u142 u143 u144 u145 u146 u147 u148 u149 u150 u151 u152 u153 u154 u155 u156 u157 u158 u159 u160 u161 u162 u163 u164 u165 u166 u167 u168 u169 u170 u171 u172 u173 u174 u175 u176 u177 u178 u179 u180 u181 u182 u183 u184 u185 u186 u187 u188 u189 u190 u191 u192 u193 u194 u195 u196 u197 u198 u199 u200 u201 u202 u203 u204 u205 u206 u207 u208 u209 u210 u211 u212 u213 u214 u215 u216 u217 u218 u219 u220 u221 u222 u223 u224 u225 u226 u227 u228 u229 u230 u231 u232 u233 : Value) (hK1 : ∀ a w, (aft7 37).wp Try.prog (Exit.then K Q) a w → K1 a w) :
    (reg7 37).wp Try.prog (Exit.then K1 (Exit.then K Q)) { tmps := List.toArray ((.slice (some ⟨ab, ao, none⟩) sl sc) :: undef :: (.pointer (some ⟨w.heap.size, 0, none⟩)) :: (.pointer (some ⟨pb + 1, 0, none⟩)) :: (.pointer (some ⟨pb + 1 + 1, 0, none⟩)) :: (.int .i64 (r : Int)) :: (.pointer (some ⟨ob, 0, none⟩)) :: (.pointer (some ⟨tb, 0, none⟩)) :: (.pointer (some ⟨ub, 0, none⟩)) :: u9 :: u10 :: u11 :: u12 :: u13 :: u14 :: u15 :: u16 :: u17 :: u18 :: u19 :: u20 :: u21 :: u22 :: u23 :: u24 :: u25 :: u26 :: u27 :: u28 :: u29 :: u30 :: u31 :: u32 :: u33 :: (.bool true) :: (.bool false) :: (.agg #[.slice none 0 0, .slice none 0 0, .int .i64 0, .slice none 0 0]) :: (.pointer (some ⟨pb, 0, none⟩)) :: (.agg #[.slice none 0 0, .int .i64 0]) :: (.pointer (some ⟨pb + 1 + 1, 0, none⟩)) :: u40 :: u41 :: u42 :: u43 :: u44 :: u45 :: u46 :: u47 :: u48 :: u49 :: u50 :: u51 :: u52 :: u53 :: u54 :: u55 :: u56 :: u57 :: u58 :: u59 :: u60 :: u61 :: u62 :: u63 :: u64 :: u65 :: u66 :: u67 :: u68 :: u69 :: u70 :: u71 :: u72 :: u73 :: u74 :: u75 :: u76 :: u77 :: u78 :: u79 :: u80 :: u81 :: u82 :: u83 :: u84 :: u85 :: u86 :: u87 :: u88 :: u89 :: u90 :: u91 :: u92 :: u93 :: u94 :: u95 :: u96 :: u97 :: u98 :: u99 :: u100 :: u101 :: u102 :: u103 :: u104 :: u105 :: u106 :: u107 :: u108 :: u109 :: u110 :: u111 :: u112 :: u113 :: u114 :: u115 :: u116 :: u117 :: u118 :: u119 :: u120 :: u121 :: u122 :: u123 :: u124 :: u125 :: u126 :: u127 :: u128 :: u129 :: u130 :: u131 :: u132 :: u133 :: u134 :: u135 :: u136 :: u137 :: u138 :: u139 :: u140 :: u141 :: u142 :: u143 :: u144 :: u145 :: u146 :: u147 :: u148 :: u149 :: u150 :: u151 :: u152 :: u153 :: u154 :: u155 :: u156 :: u157 :: u158 :: u159 :: u160 :: u161 :: u162 :: u163 :: u164 :: u165 :: u166 :: u167 :: u168 :: u169 :: u170 :: u171 :: u172 :: u173 :: u174 :: u175 :: u176 :: u177 :: u178 :: u179 :: u180 :: u181 :: u182 :: u183 :: u184 :: u185 :: u186 :: u187 :: u188 :: u189 :: u190 :: u191 :: u192 :: u193 :: u194 :: u195 :: u196 :: u197 :: u198 :: u199 :: u200 :: u201 :: u202 :: u203 :: u204 :: u205 :: u206 :: u207 :: u208 :: u209 :: u210 :: u211 :: u212 :: u213 :: u214 :: u215 :: u216 :: u217 :: u218 :: u219 :: u220 :: u221 :: u222 :: u223 :: u224 :: u225 :: u226 :: u227 :: u228 :: u229 :: u230 :: u231 :: u232 :: u233 :: undef :: undef :: undef :: undef :: undef :: undef :: []), defers := (D1 :: Ds).map markOf } V := by
  conv => arg 2; whnf
  have HR := Lib.hid hR
  have HBK := Lib.hid hbk
  have HKP := Lib.hid hkeep
  have HD1 := Lib.hid hD1
  have HOP := Lib.hid hop
  have HKW := Lib.hid hkw
  have hz := Kinds_any x tp tl tc _ V hR.tt.tv
  obtain ⟨t0, t1, t2, t3, _⟩ := box4 hR.bt
  clear hR hbk hkeep hD1 hop hkw
  go_wp2_with fail
  refine hz.mono ?_
  clear hz t0 t1 t2 t3
  rintro e Va ⟨np, nl, nc, rfl, hrow, hka⟩
  conv => whnf
  have HKA := Lib.hid hka
  have HRA := Lib.hid (HR.out.next hka)
  have hnl : nl = (kindsF x).length := row_len hrow
  have hnz : (nl : Int) ≤ 100000 := by have := kindsF_le x; omega
  have HROW : Hid (∃ ys, Va.ownsRow V.heap.size 9 1 (.slice np nl nc) nl ys) := Lib.hid ⟨_, by rw [hnl]; rw [hnl] at hrow; exact hrow⟩
  have hV0 := HR.out.l4
  have HV0 := Lib.hid hV0
  clear hrow hka hnl hV0
  go_wp2_with fail
  conv => arg 2; whnf
  go_wp2_with fail
  go_loopg [27] nl (fun m i W => ∃ j : Nat, j + m = nl ∧ i = .int .i64 j ∧ (∃ ys, W.ownsRow V.heap.size 9 1 (.slice np nl nc) nl ys) ∧ Keeps (fun b => V.heap.size ≤ b) V W)
  case atStart => exact ⟨0, by omega, rfl, HROW.out, HKA.out.mono fun _ h _ => h.elim⟩
  case round =>
    obtain ⟨W, hW⟩ : ∃ X, X = wr := ⟨_, rfl⟩
    subst hW
    obtain ⟨j, hjm, rfl, ⟨ys, hrow⟩, hk⟩ := hrel
    have HJ := Lib.hid hjm
    have HK1 := Lib.hid hk
    have HROW2 := Lib.hid hrow
    have hj0 : (0 : Int) ≤ (j : Int) := Int.natCast_nonneg _
    clear hjm hk HROW
    by_cases hlt : j < nl
    · obtain ⟨pp', cap', he, _, _, hg⟩ := ownsRow_slice hrow
      simp only [Value.slice.injEq] at he
      obtain ⟨rfl, _, _⟩ := he
      obtain ⟨g, rfl⟩ := hg (by omega)
      obtain ⟨_, hce, hfz⟩ := ownsRow_anyCell (ownsRow_low hrow)
      obtain ⟨v0, a0⟩ := hce j (by omega)
      have f0 := hfz j
      have hi1 : (j : Int) < (nl : Int) := by omega
      have hgV : V.heap.size ≤ g := (hrow.lt g (by simp [Value.ownBlock])).1
      clear hce hfz hrow hg
      go_wp2_with fail
      go_roundg (gk - 1)
      case measure => have := HJ.out; omega
      case rel => exact ⟨j + 1, by have := HJ.out; omega, by go_num, ⟨_, ownsRow_set HROW2.out j hlt _⟩, HK1.out.trans' ((Keeps.refl (fun b => b = g) W).setCell (p := ⟨g, j, none⟩) (fun _ => rfl) _) (fun b hb _ => by omega)⟩
    · have hR2 := HR.out.keeps HK1.out (fun b hb => .inr (by have := HV0.out; omega))
      have HR2 := Lib.hid hR2
      have hz := Kept_any x tp cp tl tc cl cc _ _ W hR2.tt.tv hR2.tt.mt hR2.ox hx
      obtain ⟨t0, t1, t2, t3, _⟩ := box4 hR2.bt
      obtain ⟨_, ⟨o0, o1, o2, o3⟩, _⟩ := boxO hR2.op
      clear hR2 hrow hj0
      go_wp2_with fail
      refine hz.mono ?_
      clear hz t0 t1 t2 t3 o0 o1 o2 o3
      rintro e Wc ⟨rfl, hkc⟩
      conv => whnf
      have hR3 := HR2.out.next hkc
      have HR3 := Lib.hid hR3
      have HKC := Lib.hid (HK1.out.trans' hkc (fun _ h => h.elim))
      have hz := Kept_any u vp up vl vc ul uc _ _ Wc hR3.tu.tv hR3.tu.mt hR3.ou hu
      obtain ⟨t0, t1, t2, t3, _⟩ := box4 hR3.bu
      obtain ⟨_, _, ⟨o0, o1, o2, o3⟩⟩ := boxO hR3.op
      clear hR3 hkc HR2
      go_wp2_with fail
      refine hz.mono ?_
      clear hz t0 t1 t2 t3 o0 o1 o2 o3
      rintro e Wd ⟨rfl, hkd⟩
      conv => whnf
      have hR4 := HR3.out.next hkd
      have HR4 := Lib.hid hR4
      have HKD := Lib.hid (HKC.out.trans' hkd (fun _ h => h.elim))
      have hz := Each_any x tp tl tc _ Wd hR4.tt.tv
      obtain ⟨t0, t1, t2, t3, _⟩ := box4 hR4.bt
      clear hR4 hkd HR3 HKC
      go_wp2_with fail
      refine hz.mono ?_
      clear hz t0 t1 t2 t3
      rintro e We ⟨gf, lb, It, rfl, heg, hIt, hke, hit⟩
      conv => whnf
      have hR5 := HR4.out.next hke
      have hopW := HOP.out.next hab ((HKW.out.trans' HKD.out (fun b hb hl => by have := HKW.out.size; omega)).trans hke)
      have HR5 := Lib.hid hR5
      have HKE := Lib.hid hke
      have HEG := Lib.hid heg
      have HIT := Lib.hid hit
      have HIt := Lib.hid hIt
      have hz := All_any x cp cl cc _ We hR5.ox
      obtain ⟨c1, c2, c3, c4⟩ := (⟨hopW.c1, hopW.c2, hopW.c3, hopW.c4⟩ : _ ∧ _ ∧ _ ∧ _)
      have hi0 : (0 : Int) ≤ (r : Int) := Int.natCast_nonneg _
      have hi1 : (r : Int) < (sl : Int) := by omega
      clear hR5 hopW hke heg hit hIt HR4
      go_wp2_with fail
      refine hz.mono ?_
      clear hz c1 c2 c3 c4
      rintro e Wf ⟨lp, ll, lc, xs, bs, rfl, hS, hkf⟩
      conv => whnf
      obtain ⟨wb, hwb⟩ : ∃ b, b = Wf.heap.size := ⟨_, rfl⟩
      obtain ⟨Wg, hWg⟩ : ∃ X, X = Wf.alloc (.cells #[.slice lp ll lc] 40) := ⟨_, rfl⟩
      have hkg : Keeps (fun _ => False) Wf Wg := by rw [hWg]; exact (Keeps.refl _ _).alloc _
      have hwt : Wg.heap[wb]? = some (.cells #[.slice lp ll lc] 40 (0, 0)) := by rw [hWg, hwb]; exact heap_alloc_new _ _
      have hsf := hkf.size
      have HSF : Hid (We.heap.size ≤ wb) := Lib.hid (by omega)
      have hR6 := (HR5.out.next hkf).next hkg
      have HR6 := Lib.hid hR6
      have HWT := Lib.hid hwt
      have HS := Lib.hid (hS.keeps hkg (fun _ h => h.elim))
      have HKG := Lib.hid (hkf.trans hkg)
      have HWG := Lib.hid hWg
      have HWB := Lib.hid hwb
      have htl : tl ≤ 3000 := by have h1 := Fo.len_nodes x.c; have h2 := hR6.tt.tv.len; omega
      clear hS hkf hkg hwt hsf hR6 hWg hwb HR5 hi0 hi1
      go_upto_region 46 with fail
      rw [← HWG.out, ← HWB.out]
      have HGX : Hid (∀ g, 0 < tl → tp = some ⟨g, 0, none⟩ → ∃ cur, Wg.heap[g]? = some (.cells cur T (0, 0)) ∧ tl * 4 ≤ cur.size) := Lib.hid fun g hl hg => by
        obtain ⟨g', cur, h1, _, h2, h3⟩ := HR6.out.tt.gx hl
        rw [hg] at h1
        injection h1 with h1
        injection h1 with h1
        subst h1
        exact ⟨cur, h2, h3⟩
      have HGA : Hid (∀ g, 0 < tl → tp = some ⟨g, 0, none⟩ → At g) := Lib.hid fun g hl hg => by
        obtain ⟨g', cur, h1, h4, h2, h3⟩ := HR6.out.tt.gx hl
        rw [hg] at h1
        injection h1 with h1
        injection h1 with h1
        subst h1
        exact h4
      clear HWG HWB
      go_wp2_with fail
      go_loopg [30] tl (fun m i W => ∃ j : Nat, j + m = tl ∧ i = .int .i64 j ∧ (∀ g, 0 < tl → tp = some ⟨g, 0, none⟩ → ∃ cur, W.heap[g]? = some (.cells cur T (0, 0)) ∧ tl * 4 ≤ cur.size) ∧ Keeps (fun b => 0 < tl ∧ tp = some ⟨b, 0, none⟩) Wg W)
      case atStart => exact ⟨0, by omega, rfl, HGX.out, Keeps.refl _ _⟩
      case round =>
        obtain ⟨Wh, hWh⟩ : ∃ X, X = wr := ⟨_, rfl⟩
        subst hWh
        obtain ⟨j, hjm, rfl, hgx, hk⟩ := hrel
        have HJ2 := Lib.hid hjm
        have HKH := Lib.hid hk
        have HGX2 := Lib.hid hgx
        have hj0 : (0 : Int) ≤ (j : Int) := Int.natCast_nonneg _
        have hbt : Wh.heap[tb]? = some (.cells (four x.k x.n x.t tp tl tc) T (0, 0)) := (hk.block _ (heap_lt HR6.out.bt) (fun h => (HR6.out.la _ (HGA.out _ h.1 h.2)).2.2.1 rfl)).trans HR6.out.bt
        obtain ⟨t0, t1, t2, t3, _⟩ := box4 hbt
        clear hjm hgx hbt hk
        by_cases hlt2 : j < tl
        · obtain ⟨g, rfl⟩ : ∃ g, tp = some ⟨g, 0, none⟩ := by
            obtain ⟨g, cur, h1, _⟩ := HR6.out.tt.gx (by omega)
            exact ⟨g, h1⟩
          obtain ⟨cur, hcur, hsz⟩ := HGX2.out g (by omega) rfl
          obtain ⟨hce, hfz⟩ := cells_any hcur hsz
          obtain ⟨v0, a0⟩ := hce (j * 4) (by omega)
          obtain ⟨v1, a1⟩ := hce (j * 4 + 1) (by omega)
          obtain ⟨v2, a2⟩ := hce (j * 4 + 2) (by omega)
          obtain ⟨v3, a3⟩ := hce (j * 4 + 3) (by omega)
          have f0 := hfz (j * 4)
          have f1 := hfz (j * 4 + 1)
          have f2 := hfz (j * 4 + 2)
          have f3 := hfz (j * 4 + 3)
          have hi1 : (j : Int) < (tl : Int) := by omega
          clear hce hfz hcur hsz t0 t1 t2
          go_wp2_with fail
          go_roundg (gk - 1)
          case measure => have := HJ2.out; omega
          case rel =>
            have hg : ∀ i : Nat, ((⟨g, i, none⟩ : Addr).block < Wg.heap.size → (0 < tl ∧ some (⟨g, 0, none⟩ : Addr) = some ⟨(⟨g, i, none⟩ : Addr).block, 0, none⟩)) := fun i _ => ⟨by omega, rfl⟩
            refine ⟨j + 1, by have := HJ2.out; omega, by go_num, fun g' hl hg' => ?_, (((HKH.out.setCell (hg _) _).setCell (hg _) _).setCell (hg _) _).setCell (hg _) _⟩
            injection hg' with hg'
            injection hg' with hg'
            subst hg'
            exact cells_setAny (cells_setAny (cells_setAny (cells_setAny (HGX2.out g hl rfl) _ _) _ _) _ _) _ _
        · have hkAll : Keeps (fun b => V.heap.size ≤ b ∨ At b) V Wh := (((HKD.out.mono (S' := fun b => V.heap.size ≤ b ∨ At b) (fun _ h _ => .inl h)).trans' HKE.out (fun _ h => h.elim)).trans' HKG.out (fun _ h => h.elim)).trans' HKH.out (fun b hb _ => .inr (HGA.out b hb.1 hb.2))
          have HKALL := Lib.hid hkAll
          clear hkAll t0 t1 t2 hj0
          go_upto_region 50 with fail
          have hr := HR.out
          have hd := HKD.out.size
          have he := HKE.out.size
          have hg := HKG.out.size
          have l1 := hr.l1
          have l2 := hr.l2
          have l4 := hr.l4
          have hlV : ∀ b, At b → ob < b ∧ b < D0 := fun b hb => ⟨(hr.la b hb).1, (hr.la b hb).2.1⟩
          refine freshE (F := Wd.heap.size) (Dw := We.heap.size) (WE := We) (Ds := D1 :: Ds) (xs := xs) (bs := bs) (lp := lp) (ll := ll) (lc := lc) hK ?_ ?_ (List.nodup_cons.2 ⟨fun h => by have := (hr.dl _ h).2; have := HD1.out.1; omega, hnd⟩) ?_ (by omega) HEG.out HIT.out (fun b hb => ⟨(HIt.out b hb).1, (HIt.out b hb).2, (HIt.out b hb).2⟩) ?_ ?_ ?_ HSF.out (by omega) he _ _ _ _ _ _ _ _ _ _ _ _ _ _ _ _ _ _ _ _ _ _ _ _ _ _ _ _ _ _ _ _ _ _ _ _ _ _ _ _ _ _ _ _ _ _ _ _ _ _ _ _ _ _ _ _ _ _ _ _ _ _ _ _ _ _ _ _ _ _ _ _ _ _ _ _ _ _ _ _ _ _ _ _ _ _ _ _ _ _ _ _ _ _ _ _ _ _ _ _ _ _ _ _ _ _ _ _ _ _ _ _ _ _ _ _ _ _ _ _ _ _ _ _ _ _ _ _ _ _ _ _ _ _ _ _ _ _ _ _ _ _ _ _ _ _ _ _ _ _ _ _ _ _ _ _ _ _ _ _ _ _ _ _ _ _ _ _ _ _ _ _ _ _ _ _ _ _ _ _ _ _ _ _ _ _ _ _ _ _ _ _ _ _ _ _ _ _ _ _ _ _ _ _ _ _ _ _ _ _ _ _ _ _ _ _ _ _ _ _ (by assumption)
          · refine ((HBK.out.more (C' := fun b => CP pb ob D0 Ds D1 b ∧ b < V.heap.size) (fun b hb hl => ⟨hb, hl⟩) (Nat.le_refl _) (Nat.le_refl _) (Nat.le_refl _)).keeps (HKALL.out.mono (S' := fun b => At b) (fun b hb hl => hb.elim (fun h => by omega) (fun h => h))) (fun b hb hc => ?_)).more (fun b hb hl => ?_) (Nat.le_refl _) (Nat.le_refl _) (Nat.le_refl _)
            · have := hlV b hb; have := hc.1.1; omega
            · obtain ⟨hb, hbV⟩ := hb
              rcases hb.1 with ⟨h1, h2, h3, h4⟩ | h1
              · exact ⟨h1, h2, fun e => (List.mem_cons.1 e).elim hb.2 h4, by omega⟩
              · exact ⟨by omega, by omega, fun e => (List.mem_cons.1 e).elim hb.2 (fun e => by have := (hr.dl _ e).2; omega), by omega⟩
          · exact HKP.out.trans' HKALL.out (fun b hb hl => by
              show pb ≤ b ∧ b ≠ pb + 1
              rcases hb with hb | hb
              · omega
              · have := hlV b hb; omega)
          · intro D hD
            rcases List.mem_cons.1 hD with rfl | hD
            · exact ⟨by have := HD1.out.1; omega, by have := heap_lt HD1.out.2; omega, (HKALL.out.block _ (heap_lt HD1.out.2) (fun h => by
                rcases h with h | h
                · have := heap_lt HD1.out.2; omega
                · have := hlV _ h; have := HD1.out.1; omega)).trans HD1.out.2⟩
            · have h1 := hr.mks D hD
              have h2 := hr.dl D hD
              exact ⟨h2.1, by have := heap_lt h1; omega, (HKALL.out.block _ (heap_lt h1) (fun h => by
                rcases h with h | h
                · have := heap_lt h1; omega
                · have := hlV _ h; omega)).trans h1⟩
          · exact (HKG.out.mono (S' := fun b => ¬ It b) (fun _ h _ => h.elim)).trans' HKH.out (fun b hb _ hi => by have := hlV b (HGA.out b hb.1 hb.2); have := (HIt.out b hi).1; omega)
          · exact HS.out.keeps HKH.out (fun b hb => .inl (by have := hlV b (HGA.out b hb.1 hb.2); omega))
          · exact (HKH.out.block _ (heap_lt HWT.out) (fun h => by have := hlV _ (HGA.out _ h.1 h.2); have := HSF.out; omega)).trans HWT.out
end Go.Proofs.Ytnphhibfiklfjaa
