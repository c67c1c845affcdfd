/-
  espalierlaw4.TreeFresh: the round's last part: the iterator that was made ahead of the spoiling tells what the reference told.
-/
import Derived.Test.YtnphhibfiklfjaaFreshA

import Derived.Test.YtnphhibfiklfjaaAll

set_option linter.unusedVariables false

set_option linter.unusedSimpArgs false

namespace Go.Proofs.Ytnphhibfiklfjaa

open Go.RowKit Go.Shelf

attribute [local go_sem] Oper.semAt_some

set_option maxRecDepth 1000000 in
set_option maxHeartbeats 12800000 in
theorem freshE {w W0 V : World} {ab ao sl sc pb r F Dw gf wb : Nat} {lb : Array Value} {It : Nat → Prop} {Ds : List Nat} {x : Nd} {lp : Option Addr} {ll lc : Nat} {xs : List Value} {bs : List Nat} {WE : World} {K K1 : Act → World → Prop} {Q : Exit → Act → World → Prop}
    (hK : Hid (∀ (W' : World) (Ds' : List Nat) (u6 u7 u8 u9 u10 u11 u12 u13 u14 u15 u16 u17 u18 u19 u20 u21 u22 u23 u24 u25 u26 u27 u28 u29 u30 u31 u32 u33 u40 u41 u42 u43 u44 u45 u46 u47 u48 u49 u50 u51 u52 u53 u54 u55 u56 u57 u58 u59 u60 u61 u62 u63 u64 u65 u66 u67 u68 u69 u70 u71 u72 u73 u74 u75 u76 u77 u78 u79 u80 u81 u82 u83 u84 u85 u86 u87 u88 u89 u90 u91 u92 u93 u94 u95 u96 u97 u98 u99 u100 u101 u102 u103 u104 u105 u106 u107 u108 u109 u110 u111 u112 u113 u114 u115 u116 u117 u118 u119 u120 u121 u122 u123 u124 u125 u126 u127 u128 u129 u130 u131 u132 u133 u134 u135 u136 u137 u138 u139 u140 u141 u142 u143 u144 u145 u146 u147 u148 u149 u150 u151 u152 u153 u154 u155 u156 u157 u158 u159 u160 u161 u162 u163 u164 u165 u166 u167 u168 u169 u170 u171 u172 u173 u174 u175 u176 u177 u178 u179 u180 u181 u182 u183 u184 u185 u186 u187 u188 u189 u190 u191 u192 u193 u194 u195 u196 u197 u198 u199 u200 u201 u202 u203 u204 u205 u206 u207 u208 u209 u210 u211 u212 u213 u214 u215 u216 u217 u218 u219 u220 u221 u222 u223 u224 u225 u226 u227 u228 u229 u230 u231 u232 u233 : Value), FI W0 pb (r + 1) Ds' W' → K { tmps := List.toArray ((.slice (some ⟨ab, ao, none⟩) sl sc) :: undef :: (.pointer (some ⟨w.heap.size, 0, none⟩)) :: (.pointer (some ⟨pb + 1, 0, none⟩)) :: (.pointer (some ⟨pb + 1 + 1, 0, none⟩)) :: (.int .i64 (r : Int)) :: u6 :: u7 :: u8 :: u9 :: u10 :: u11 :: u12 :: u13 :: u14 :: u15 :: u16 :: u17 :: u18 :: u19 :: u20 :: u21 :: u22 :: u23 :: u24 :: u25 :: u26 :: u27 :: u28 :: u29 :: u30 :: u31 :: u32 :: u33 :: (.bool true) :: (.bool false) :: (.agg #[.slice none 0 0, .slice none 0 0, .int .i64 0, .slice none 0 0]) :: (.pointer (some ⟨pb, 0, none⟩)) :: (.agg #[.slice none 0 0, .int .i64 0]) :: (.pointer (some ⟨pb + 1 + 1, 0, none⟩)) :: u40 :: u41 :: u42 :: u43 :: u44 :: u45 :: u46 :: u47 :: u48 :: u49 :: u50 :: u51 :: u52 :: u53 :: u54 :: u55 :: u56 :: u57 :: u58 :: u59 :: u60 :: u61 :: u62 :: u63 :: u64 :: u65 :: u66 :: u67 :: u68 :: u69 :: u70 :: u71 :: u72 :: u73 :: u74 :: u75 :: u76 :: u77 :: u78 :: u79 :: u80 :: u81 :: u82 :: u83 :: u84 :: u85 :: u86 :: u87 :: u88 :: u89 :: u90 :: u91 :: u92 :: u93 :: u94 :: u95 :: u96 :: u97 :: u98 :: u99 :: u100 :: u101 :: u102 :: u103 :: u104 :: u105 :: u106 :: u107 :: u108 :: u109 :: u110 :: u111 :: u112 :: u113 :: u114 :: u115 :: u116 :: u117 :: u118 :: u119 :: u120 :: u121 :: u122 :: u123 :: u124 :: u125 :: u126 :: u127 :: u128 :: u129 :: u130 :: u131 :: u132 :: u133 :: u134 :: u135 :: u136 :: u137 :: u138 :: u139 :: u140 :: u141 :: u142 :: u143 :: u144 :: u145 :: u146 :: u147 :: u148 :: u149 :: u150 :: u151 :: u152 :: u153 :: u154 :: u155 :: u156 :: u157 :: u158 :: u159 :: u160 :: u161 :: u162 :: u163 :: u164 :: u165 :: u166 :: u167 :: u168 :: u169 :: u170 :: u171 :: u172 :: u173 :: u174 :: u175 :: u176 :: u177 :: u178 :: u179 :: u180 :: u181 :: u182 :: u183 :: u184 :: u185 :: u186 :: u187 :: u188 :: u189 :: u190 :: u191 :: u192 :: u193 :: u194 :: u195 :: u196 :: u197 :: u198 :: u199 :: u200 :: u201 :: u202 :: u203 :: u204 :: u205 :: u206 :: u207 :: u208 :: u209 :: u210 :: u211 :: u212 :: u213 :: u214 :: u215 :: u216 :: u217 :: u218 :: u219 :: u220 :: u221 :: u222 :: u223 :: u224 :: u225 :: u226 :: u227 :: u228 :: u229 :: u230 :: u231 :: u232 :: u233 :: undef :: undef :: undef :: undef :: undef :: undef :: []), defers := Ds'.map markOf } W'))
    (hbk : BKI (fun b => pb ≤ b ∧ b ≠ pb + 1 ∧ b ∉ Ds ∧ b < F) pb ((r + 1) * 125952) (2 * (r + 1)) (2 * (r + 1)) V) (hkeep : Keeps (fun b => pb ≤ b ∧ b ≠ pb + 1) W0 V) (hnd : Ds.Nodup) (hmk : ∀ D ∈ Ds, pb + 3 ≤ D ∧ D < F ∧ V.heap[D]? = some (.deferred (some [])))
    (hF : pb + 3 ≤ F) (heg : ∀ args W, (callFunc gf args).run Try.prog W = .ok (.enter gf args) W) (hit : IterOK Try.prog gf lb (eachL x).length (EachG (eachL x)) It WE) (hIt : ∀ b, It b → F ≤ b ∧ b < Dw ∧ b < WE.heap.size) (hkE : Keeps (fun b => ¬ It b) WE V) (hS : StepsI Dw V (eachL x) lp ll lc xs bs) (hwt : V.heap[wb]? = some (.cells #[.slice lp ll lc] 40 (0, 0))) (hwb : Dw ≤ wb) (hDw : pb + 3 ≤ Dw) (hFD : F ≤ Dw)
    (u6 u7 u8 u9 u10 u11 u12 u13 u14 u15 u16 u17 u18 u19 u20 u21 u22 u23 u24 u25 u26 u27 u30 u31 u32 u33 u40 u41 u42 u43 u44 u45 u46 u47 u48 u49 u50 u51 u52 u53 u54 u55 u56 u57 u58 u59 u60 u61 u62 u63 u64 u65 u66 u67 u68 u69 u70 u71 u72 u73 u74 u75 u76 u77 u78 u79 u80 u81 u82 u83 u84 u85 u86 u87 u88 u89 u90 u91 u92 u93 u94 u95 u96 u97 u98 u99 u100 u101 u102 u103 u104 u105 u106 u107 u108 u109 u110 u111 u112 u113 u114 u115 u116 u117 u118 u119 u120 u121 u122 u123 u124 u125 u126 u127 u128 u129 u130 u131 u132 u133 u134 u135 u136 u137 u138 u139 u140 u141 u142 u143 u144 u145 u146 u147 u148 u149 u150 u151 u152 u153 u154 u155 u156 u157 u158 u159 u160 u161 u162 u163 u164 u165 u166 u167 u168 u169 u170 u171 u172 u173 u174 u175 u176 u177 u178 u179 u180 u181 u182 u183 u184 u185 u186 u187 u188 u189 u190 u191 u192 u193 u194 u195 u196 u197 u198 u199 u200 u201 u202 u203 u204 u205 u206 u207 u208 u209 u210 u211 u212 u213 u214 u215 u216 u217 u218 u219 u220 u221 u222 u223 u224 u225 u226 u227 u228 u229 u230 u231 u232 u233 : Value) (hK1 : ∀ a w, (aft7 50).wp Try.prog (Exit.then K Q) a w → K1 a w) :
    (reg7 50).wp Try.prog (Exit.then K1 (Exit.then K Q)) { tmps := List.toArray ((.slice (some ⟨ab, ao, none⟩) sl sc) :: undef :: (.pointer (some ⟨w.heap.size, 0, none⟩)) :: (.pointer (some ⟨pb + 1, 0, none⟩)) :: (.pointer (some ⟨pb + 1 + 1, 0, none⟩)) :: (.int .i64 (r : Int)) :: u6 :: u7 :: u8 :: u9 :: u10 :: u11 :: u12 :: u13 :: u14 :: u15 :: u16 :: u17 :: u18 :: u19 :: u20 :: u21 :: u22 :: u23 :: u24 :: u25 :: u26 :: u27 :: (.func (.func gf) #[] lb) :: (.pointer (some ⟨wb, 0, none⟩)) :: u30 :: u31 :: u32 :: u33 :: (.bool true) :: (.bool false) :: (.agg #[.slice none 0 0, .slice none 0 0, .int .i64 0, .slice none 0 0]) :: (.pointer (some ⟨pb, 0, none⟩)) :: (.agg #[.slice none 0 0, .int .i64 0]) :: (.pointer (some ⟨pb + 1 + 1, 0, none⟩)) :: u40 :: u41 :: u42 :: u43 :: u44 :: u45 :: u46 :: u47 :: u48 :: u49 :: u50 :: u51 :: u52 :: u53 :: u54 :: u55 :: u56 :: u57 :: u58 :: u59 :: u60 :: u61 :: u62 :: u63 :: u64 :: u65 :: u66 :: u67 :: u68 :: u69 :: u70 :: u71 :: u72 :: u73 :: u74 :: u75 :: u76 :: u77 :: u78 :: u79 :: u80 :: u81 :: u82 :: u83 :: u84 :: u85 :: u86 :: u87 :: u88 :: u89 :: u90 :: u91 :: u92 :: u93 :: u94 :: u95 :: u96 :: u97 :: u98 :: u99 :: u100 :: u101 :: u102 :: u103 :: u104 :: u105 :: u106 :: u107 :: u108 :: u109 :: u110 :: u111 :: u112 :: u113 :: u114 :: u115 :: u116 :: u117 :: u118 :: u119 :: u120 :: u121 :: u122 :: u123 :: u124 :: u125 :: u126 :: u127 :: u128 :: u129 :: u130 :: u131 :: u132 :: u133 :: u134 :: u135 :: u136 :: u137 :: u138 :: u139 :: u140 :: u141 :: u142 :: u143 :: u144 :: u145 :: u146 :: u147 :: u148 :: u149 :: u150 :: u151 :: u152 :: u153 :: u154 :: u155 :: u156 :: u157 :: u158 :: u159 :: u160 :: u161 :: u162 :: u163 :: u164 :: u165 :: u166 :: u167 :: u168 :: u169 :: u170 :: u171 :: u172 :: u173 :: u174 :: u175 :: u176 :: u177 :: u178 :: u179 :: u180 :: u181 :: u182 :: u183 :: u184 :: u185 :: u186 :: u187 :: u188 :: u189 :: u190 :: u191 :: u192 :: u193 :: u194 :: u195 :: u196 :: u197 :: u198 :: u199 :: u200 :: u201 :: u202 :: u203 :: u204 :: u205 :: u206 :: u207 :: u208 :: u209 :: u210 :: u211 :: u212 :: u213 :: u214 :: u215 :: u216 :: u217 :: u218 :: u219 :: u220 :: u221 :: u222 :: u223 :: u224 :: u225 :: u226 :: u227 :: u228 :: u229 :: u230 :: u231 :: u232 :: u233 :: undef :: undef :: undef :: undef :: undef :: undef :: []), defers := Ds.map markOf } V := by
  conv => arg 2; whnf
  go_wp2_with fail
  conv => arg 2; whnf
  go_wp2_with fail
  obtain ⟨kx, hkx⟩ : ∃ b, b = V.heap.size := ⟨_, rfl⟩
  obtain ⟨V0, hV0⟩ : ∃ X, X = V.alloc (.cells #[.int .i64 0] 3) := ⟨_, rfl⟩
  rw [← hV0, ← hkx]
  have hk0 : Keeps (fun _ => False) V V0 := by rw [hV0]; exact (Keeps.refl _ _).alloc _
  have hA0 : V0.heap[kx]? = some (.cells #[.int .i64 0] 3 (0, 0)) := by rw [hV0, hkx]; exact heap_alloc_new _ _
  have hwt0 := hk0.heap hwt
  have hS0 := hS.keeps hk0 (fun _ h => h.elim)
  have hkE0 : Keeps (fun b => ¬ It b) WE V0 := hkE.trans' hk0 (fun _ h => h.elim)
  have hDk : Dw < kx := by have := heap_lt hwt; omega
  have hkI : ¬ It kx := fun h => by have := (hIt kx h).2.1; omega
  have hwI : ¬ It wb := fun h => by have := (hIt wb h).2.1; omega
  have hwk : wb ≠ kx := by have := heap_lt hwt; omega
  have hkl := heap_lt hA0
  obtain ⟨N, hN⟩ : ∃ N, (eachL x).length = N := ⟨_, rfl⟩
  have hll : ll = N := by
    rcases hS0.row.2 with ⟨h1, h2⟩ | ⟨g', cap', cur, h1, h2, _⟩
    · simp only [Value.slice.injEq] at h1; omega
    · simp only [Value.slice.injEq] at h1; omega
  have hNs : N ≤ 1024 := by
    rw [← hN, eachL]
    split
    · rename_i h1; rw [pre_len]; have := h1.1; simp only [Nd.nodes] at this; omega
    · simp
  rw [hN] at hit
  subst hll
  have HN := Lib.hid hN
  have HIT := Lib.hid hit
  have HEG := Lib.hid heg
  have HWT := Lib.hid hwt0
  have HS := Lib.hid hS
  have HIt := Lib.hid hIt
  have HKE := Lib.hid hkE0
  have HA0 := Lib.hid hA0
  have HK0 := Lib.hid hk0
  have HMK := Lib.hid hmk
  have HBK := Lib.hid hbk
  have HKP := Lib.hid hkeep
  have HKX := Lib.hid hkx
  clear hN hit heg hwt hwt0 hS hS0 hIt hkE hkE0 hA0 hk0 hmk hbk hkeep hV0 hkx
  refine (wpIn_wide (n := 1 + 2)).1 (range_law 1 (gf := gf) (lb := lb) (by rfl) HEG.out HIT.out HKE.out (fun b hb => (HIt.out b hb).2.2) (fun j vs Y W h => by obtain ⟨p, x, pv, cp, cl, cc, bs, _, rfl, _⟩ := h; rfl)
    (fun j B W => FJ It V0 kx j B W) (fun c B W => False) (fun j B W W' h hk => h.stab hkl hkI hk) (fun c B W W' h hk => h) (fun b => b < V0.heap.size ∧ ¬ It b) (fun b hb => hb)
    ⟨fun b h1 h2 => ⟨h1, h2⟩, Keeps.refl _ _, HA0.out⟩ ?round ?done ?stop)
  case stop => exact fun c B W h => h.elim
  case round =>
    rintro j B2 Y vs W1 hj hBl hJ ⟨p, y, pv, cp', cl', cc', bs', hL, rfl, hrow, hown, hsz, hYe⟩ hY hBD hlt
    obtain ⟨pp1, pc1, rfl, hints⟩ := hrow.ints hrow.le'
    gi_wp2
    obtain ⟨yb, hyb⟩ : ∃ yb, yb = W1.heap.size := ⟨_, rfl⟩
    obtain ⟨W7, hW7⟩ : ∃ W7, W7 = W1.alloc (.cells (four y.k y.n y.t cp' cl' cc') T) := ⟨_, rfl⟩
    have hka : Keeps (fun _ => False) W1 W7 := by rw [hW7]; exact (Keeps.refl _ W1).alloc _
    have hby : W7.heap[yb]? = some (.cells (four y.k y.n y.t cp' cl' cc') T (0, 0)) := by rw [hW7, hyb]; exact heap_alloc_new _ _
    rw [← hW7, ← hyb]
    refine ⟨hka.mono fun _ h _ => h.elim, fun W₂ hk2 => ?_⟩
    have hW2 : Keeps (fun b => b = V0.heap.size + 1) W1 W₂ := (hka.mono (S' := fun b => b = V0.heap.size + 1) fun _ h _ => h.elim).trans' hk2 (fun b hb _ => hb)
    have hs1 := hJ.keeps.size
    have hs2 := hW2.size
    have hs0 := HK0.out.size
    have hjN : j < ll := hj
    have hKV : Keeps (fun b => It b ∨ b = kx) V0 W₂ := hJ.keeps.trans' (S' := fun b => b = V0.heap.size + 1) hW2 (fun b hb hl => by omega)
    have hS2 := HS.out.keeps ((HK0.out.mono (S' := fun b => It b ∨ b = kx) (fun _ h _ => h.elim)).trans hKV) (fun b hb => by
      rcases hb with hb | hb
      · exact .inl (HIt.out b hb).2.1
      · exact .inr (by rw [hb, HKX.out]; exact Nat.le_refl _))
    have hA2 : W₂.heap[kx]? = some (.cells #[.int .i64 (j : Int)] 3 (0, 0)) := (hW2.block _ (heap_lt hJ.at_) (by omega)).trans hJ.at_
    have hWt2 : W₂.heap[wb]? = some (.cells #[.slice lp ll lc] 40 (0, 0)) := (hKV.block _ (heap_lt HWT.out) (fun h => h.elim hwI hwk)).trans HWT.out
    have hby : W₂.heap[yb]? = some (.cells (four y.k y.n y.t cp' cl' cc') T (0, 0)) := (hk2.block _ (heap_lt hby) (by omega)).trans hby
    have hYl : ∀ b, (Value.slice pp1 p.length pc1).ownBlock = some b ∨ b ∈ bs' → b < W1.heap.size ∧ b ≠ V0.heap.size + 1 := fun b hb => by
      have := hY b (by rw [hYe]; exact hb)
      omega
    have hi2 := hints.keeps hW2 (fun b hb e => (hYl b (.inl hb)).2 e)
    have ht2 := (hown.keeps hW2 (fun b hb => ⟨(hYl b (.inr hb)).1, (hYl b (.inr hb)).2⟩)).tv hsz
    obtain ⟨pv2, cp2, cl2, cc2, bs2, g0, g1, g2, g3, g4, hsz2, hrow2, hown2, _⟩ := hS2.rep.at_ hL
    obtain ⟨pp2, pc2, rfl, hints2⟩ := hrow2.ints hrow2.le'
    have hty := hown2.tv hsz2
    have hform : ∃ g, lp = some ⟨g, 0, none⟩ := by
      rcases hS2.row.2 with ⟨h1, h2⟩ | ⟨g', cap', cur, h1, h2, _⟩
      · simp only [Value.slice.injEq] at h1; omega
      · simp only [Value.slice.injEq] at h1; exact ⟨g', h1.1⟩
    obtain ⟨g, rfl⟩ := hform
    have hrowL := hS2.row
    rw [HN.out] at hrowL
    have c0 : W₂.cell? ⟨g, j * 5, none⟩ = some (.slice pp2 p.length pc2) := (hrowL.cellAt _ (by omega)).trans g0
    have c1 : W₂.cell? ⟨g, j * 5 + 1, none⟩ = some (.string y.k) := (hrowL.cellAt _ (by omega)).trans g1
    have c2 : W₂.cell? ⟨g, j * 5 + 2, none⟩ = some (.int .i64 y.n) := (hrowL.cellAt _ (by omega)).trans g2
    have c3 : W₂.cell? ⟨g, j * 5 + 3, none⟩ = some (.string y.t) := (hrowL.cellAt _ (by omega)).trans g3
    have c4 : W₂.cell? ⟨g, j * 5 + 4, none⟩ = some (.slice cp2 cl2 cc2) := (hrowL.cellAt _ (by omega)).trans g4
    have a0 : W₂.cell? ⟨kx, 0, none⟩ = some (.int .i64 (j : Int)) := by simp [World.cell?, hA2]
    have w0 : W₂.cell? ⟨wb, 0, none⟩ = some (.slice (some ⟨g, 0, none⟩) ll lc) := by simp [World.cell?, hWt2]
    obtain ⟨y0, y1, y2, y3, _⟩ := box4 hby
    have hEP : Hid (∀ W, Keeps (fun _ => False) W₂ W → Calls Try.prog 16 #[.slice pp1 p.length pc1, .slice pp2 p.length pc2] W fun e w' => e = .returned (.bool true) ∧ Keeps (fun _ => False) W w') := Lib.hid fun W hk => by
      have := EqPath_any p p pp1 pp2 p.length p.length pc1 pc2 _ _ W (hi2.keeps hk (fun _ _ h => h)) (hints2.keeps hk (fun _ _ h => h))
      rwa [decide_eq_true rfl] at this
    have hEQ : Hid (∀ W, Keeps (fun _ => False) W₂ W → Calls Try.prog 17 #[tv y.k y.n y.t cp' cl' cc', tv y.k y.n y.t cp2 cl2 cc2] W fun e w' => e = .returned (.bool true) ∧ Keeps (fun _ => False) W w') := Lib.hid fun W hk => by
      have := Eq_any (y.c.nodes + 1) y.k y.k y.n y.n y.t y.t y.c y.c _ _ cp' cp2 cl' cc' cl2 cc2 W (by omega) (ht2.next hk) (hty.next hk)
      rwa [eqB_self] at this
    have ka := fun d os => cell_regrown a0 d os
    have kw := fun d os => cell_regrown w0 d os
    have kc0 := fun d os => cell_regrown c0 d os
    have kc1 := fun d os => cell_regrown c1 d os
    have kc2 := fun d os => cell_regrown c2 d os
    have kc3 := fun d os => cell_regrown c3 d os
    have kc4 := fun d os => cell_regrown c4 d os
    have ky0 := fun d os => cell_regrown y0 d os
    have ky1 := fun d os => cell_regrown y1 d os
    have ky2 := fun d os => cell_regrown y2 d os
    have ky3 := fun d os => cell_regrown y3 d os
    have hj0 : (0 : Int) ≤ (j : Int) := Int.natCast_nonneg _
    have hj1 : (j : Int) < (ll : Int) := by omega
    have hj2 : ¬ (ll : Int) ≤ (j : Int) := by omega
    have hj3 : decide ((ll : Int) ≤ (j : Int)) = false := by simp; omega
    have HA2 := Lib.hid hA2
    have HJ := Lib.hid hJ
    have HW2 := Lib.hid hW2
    have HB := Lib.hid hBl
    clear hA2 hJ hW2 hBl hYe hYl hBD hY hL hrow hown hints hi2 ht2 hints2 hty hS2 hKV hrowL hWt2 hby g0 g1 g2 g3 g4 hrow2 hown2 hk2 hka hyb hW7 c0 c1 c2 c3 c4 a0 w0 y0 y1 y2 y3
    gi_wp2_with fail
    refine region_round (by kernel_rfl) (by kernel_rfl) (by kernel_rfl) ?_
    repeat (refine wpQuietIn_step (fun _ _ _ _ => trivial) (fun K hK => ?_); go_simp; first | (refine hK _ ?_; clear hK K) | (apply Exists.intro; refine ⟨fun _ => ?_, hK _ ?_⟩; (first | exact quiet_call hEP.out | exact quiet_call hEQ.out | exact ⟨trivial, quiet_call hEP.out⟩ | exact ⟨trivial, quiet_call hEQ.out⟩ | exact ⟨by simp, quiet_call hEP.out⟩ | exact ⟨by simp, quiet_call hEQ.out⟩); clear hK K))
    refine wpQuietIn_nil ?_
    intro W8 hk8
    have hA8 := hk8.heap HA2.out
    have a0 : W8.cell? ⟨kx, 0, none⟩ = some (.int .i64 (j : Int)) := by simp [World.cell?, hA8]
    have a1 : W8.frozen? ⟨kx, 0, none⟩ = false := by simp [World.frozen?, hA8]
    have hend : Hid ((∀ b, B2 b → (B2 b ∨ Y b ∨ W1.heap.size ≤ b) ∧ b < (W8.setCell ⟨kx, 0, none⟩ (.int .i64 ((j : Int) + 1))).heap.size) ∧ Keeps (fun b => B2 b ∨ Y b) W₂ (W8.setCell ⟨kx, 0, none⟩ (.int .i64 ((j : Int) + 1))) ∧ FJ It V0 kx ((j : Int) + 1) B2 (W8.setCell ⟨kx, 0, none⟩ (.int .i64 ((j : Int) + 1)))) := by
      have hse := (Keeps.refl (fun b => b = kx) W8).setCell (p := ⟨kx, 0, none⟩) (fun _ => rfl) (.int .i64 ((j : Int) + 1))
      have hsz := hk8.size
      refine ⟨fun b hb => ⟨.inl hb, ?_⟩, ?_, HJ.out.own, ?_, ?_⟩
      · have h1 := HB.out b hb
        have h2 := hse.size
        omega
      · exact (hk8.mono (S' := fun b => B2 b ∨ Y b) fun _ h _ => h.elim).trans' hse (fun b hb hl => .inl (hb ▸ HJ.out.own kx hkl hkI))
      · exact ((HJ.out.keeps.trans' HW2.out (fun b hb hl => by omega)).trans' hk8 (fun _ h _ => h.elim)).trans' hse (fun b hb hl => .inr hb)
      · rw [heap_set hA8]; rfl
    clear hA8 ka kw kc0 kc1 kc2 kc3 kc4 ky0 ky1 ky2 ky3 hEP hEQ hk8 hj3
    gi_wp2_with fail
    obtain ⟨e1, e2, e3⟩ := hend.out
    have e4 : (((j + 1 : Nat)) : Int) = (j : Int) + 1 := by omega
    exact ⟨B2, e1, e2, (show FJ It V0 kx (((j + 1 : Nat)) : Int) B2 _ by rw [e4]; exact e3)⟩
  case done =>
    rintro B W1 hJ hD hkI2 hBne
    have hkP : Keeps (fun b => b = kx) V0 W1 := Keeps.both hJ.keeps hkI2
    have hWt1 : W1.heap[wb]? = some (.cells #[.slice lp ll lc] 40 (0, 0)) := (hkP.block _ (heap_lt HWT.out) hwk).trans HWT.out
    have a0 : W1.cell? ⟨kx, 0, none⟩ = some (.int .i64 (ll : Int)) := by simp [World.cell?, hJ.at_]
    have w0 : W1.cell? ⟨wb, 0, none⟩ = some (.slice lp ll lc) := by simp [World.cell?, hWt1]
    have hfin : Hid (FI W0 pb (r + 1) (V0.heap.size :: Ds) W1) := by
      have h0 := HK0.out.size
      have h1 : V.heap.size < V0.heap.size := by have := HKX.out; omega
      have hkV1 : Keeps (fun b => b = kx) V W1 := (HK0.out.mono (S' := fun b => b = kx) (fun _ h _ => h.elim)).trans hkP
      have hkx := HKX.out
      have hFk : F < kx := by omega
      refine ⟨(HBK.out.keeps hkV1 (fun b hb h => by have := h.2.2.2; omega)).more (fun b hb _ => ⟨hb.1, hb.2.1, fun e => ?_⟩) (Nat.le_refl _) (Nat.le_refl _) (Nat.le_refl _), HKP.out.trans' hkV1 (fun b hb hl => by omega), List.nodup_cons.2 ⟨fun h => by have := (HMK.out _ h).2.1; omega, hnd⟩, fun D hD' => ?_⟩
      · rcases List.mem_cons.1 e with e | e
        · have := hb.2.2.2; omega
        · exact hb.2.2.1 e
      · rcases List.mem_cons.1 hD' with rfl | hD'
        · exact ⟨by omega, hD⟩
        · obtain ⟨h2, h3, h4⟩ := HMK.out D hD'
          exact ⟨h2, (hkV1.block _ (heap_lt h4) (by omega)).trans h4⟩
    clear hkP hWt1 hJ hD hkI2 hBne
    go_wp2_with fail
    exact hK.out _ (V0.heap.size :: Ds) _ _ _ _ _ _ _ _ _ _ _ _ _ _ _ _ _ _ _ _ _ _ _ _ _ _ _ _ _ _ _ _ _ _ _ _ _ _ _ _ _ _ _ _ _ _ _ _ _ _ _ _ _ _ _ _ _ _ _ _ _ _ _ _ _ _ _ _ _ _ _ _ _ _ _ _ _ _ _ _ _ _ _ _ _ _ _ _ _ _ _ _ _ _ _ _ _ _ _ _ _ _ _ _ _ _ _ _ _ _ _ _ _ _ _ _ _ _ _ _ _ _ _ _ _ _ _ _ _ _ _ _ _ _ _ _ _ _ _ _ _ _ _ _ _ _ _ _ _ _ _ _ _ _ _ _ _ _ _ _ _ _ _ _ _ _ _ _ _ _ _ _ _ _ _ _ _ _ _ _ _ _ _ _ _ _ _ _ _ _ _ _ _ _ _ _ _ _ _ _ _ _ _ _ _ _ _ _ _ _ _ _ _ _ _ _ _ _ _ _ _ _ hfin.out
end Go.Proofs.Ytnphhibfiklfjaa
