/-
  espalierlaw4.TreeFresh: the round's second part: two copies in boxes; three trees are kept, twice, with the names; three are taken.
-/
import Derived.Test.YtnphhibfiklfjaaFreshC

import Derived.Deep.RegionHeld3

import Derived.BigQuiet

set_option linter.unusedVariables false

set_option linter.unusedSimpArgs false

namespace Go.Proofs.Ytnphhibfiklfjaa

open Go.RowKit Go.Shelf

set_option maxRecDepth 1000000 in
set_option maxHeartbeats 12800000 in
theorem freshB {w W0 V : World} {ab ao sl sc pb r ob : Nat} {Ds : List Nat} {kd : Int} {x u : Nd} {path : List Int} {cp up : Option Addr} {cl cc ul uc : Nat} {pp : Option Addr} {pl pc : Nat} {st : Int} {K K1 : Act → World → Prop} {Q : Exit → Act → World → Prop}
    (hK : Hid (∀ (W' : World) (Ds' : List Nat) (u6 u7 u8 u9 u10 u11 u12 u13 u14 u15 u16 u17 u18 u19 u20 u21 u22 u23 u24 u25 u26 u27 u28 u29 u30 u31 u32 u33 u40 u41 u42 u43 u44 u45 u46 u47 u48 u49 u50 u51 u52 u53 u54 u55 u56 u57 u58 u59 u60 u61 u62 u63 u64 u65 u66 u67 u68 u69 u70 u71 u72 u73 u74 u75 u76 u77 u78 u79 u80 u81 u82 u83 u84 u85 u86 u87 u88 u89 u90 u91 u92 u93 u94 u95 u96 u97 u98 u99 u100 u101 u102 u103 u104 u105 u106 u107 u108 u109 u110 u111 u112 u113 u114 u115 u116 u117 u118 u119 u120 u121 u122 u123 u124 u125 u126 u127 u128 u129 u130 u131 u132 u133 u134 u135 u136 u137 u138 u139 u140 u141 u142 u143 u144 u145 u146 u147 u148 u149 u150 u151 u152 u153 u154 u155 u156 u157 u158 u159 u160 u161 u162 u163 u164 u165 u166 u167 u168 u169 u170 u171 u172 u173 u174 u175 u176 u177 u178 u179 u180 u181 u182 u183 u184 u185 u186 u187 u188 u189 u190 u191 u192 u193 u194 u195 u196 u197 u198 u199 u200 u201 u202 u203 u204 u205 u206 u207 u208 u209 u210 u211 u212 u213 u214 u215 u216 u217 u218 u219 u220 u221 u222 u223 u224 u225 u226 u227 u228 u229 u230 u231 u232 u233 : Value), FI W0 pb (r + 1) Ds' W' → K { tmps := List.toArray ((.slice (some ⟨ab, ao, none⟩) sl sc) :: undef :: (.pointer (some ⟨w.heap.size, 0, none⟩)) :: (.pointer (some ⟨pb + 1, 0, none⟩)) :: (.pointer (some ⟨pb + 1 + 1, 0, none⟩)) :: (.int .i64 (r : Int)) :: u6 :: u7 :: u8 :: u9 :: u10 :: u11 :: u12 :: u13 :: u14 :: u15 :: u16 :: u17 :: u18 :: u19 :: u20 :: u21 :: u22 :: u23 :: u24 :: u25 :: u26 :: u27 :: u28 :: u29 :: u30 :: u31 :: u32 :: u33 :: (.bool true) :: (.bool false) :: (.agg #[.slice none 0 0, .slice none 0 0, .int .i64 0, .slice none 0 0]) :: (.pointer (some ⟨pb, 0, none⟩)) :: (.agg #[.slice none 0 0, .int .i64 0]) :: (.pointer (some ⟨pb + 1 + 1, 0, none⟩)) :: u40 :: u41 :: u42 :: u43 :: u44 :: u45 :: u46 :: u47 :: u48 :: u49 :: u50 :: u51 :: u52 :: u53 :: u54 :: u55 :: u56 :: u57 :: u58 :: u59 :: u60 :: u61 :: u62 :: u63 :: u64 :: u65 :: u66 :: u67 :: u68 :: u69 :: u70 :: u71 :: u72 :: u73 :: u74 :: u75 :: u76 :: u77 :: u78 :: u79 :: u80 :: u81 :: u82 :: u83 :: u84 :: u85 :: u86 :: u87 :: u88 :: u89 :: u90 :: u91 :: u92 :: u93 :: u94 :: u95 :: u96 :: u97 :: u98 :: u99 :: u100 :: u101 :: u102 :: u103 :: u104 :: u105 :: u106 :: u107 :: u108 :: u109 :: u110 :: u111 :: u112 :: u113 :: u114 :: u115 :: u116 :: u117 :: u118 :: u119 :: u120 :: u121 :: u122 :: u123 :: u124 :: u125 :: u126 :: u127 :: u128 :: u129 :: u130 :: u131 :: u132 :: u133 :: u134 :: u135 :: u136 :: u137 :: u138 :: u139 :: u140 :: u141 :: u142 :: u143 :: u144 :: u145 :: u146 :: u147 :: u148 :: u149 :: u150 :: u151 :: u152 :: u153 :: u154 :: u155 :: u156 :: u157 :: u158 :: u159 :: u160 :: u161 :: u162 :: u163 :: u164 :: u165 :: u166 :: u167 :: u168 :: u169 :: u170 :: u171 :: u172 :: u173 :: u174 :: u175 :: u176 :: u177 :: u178 :: u179 :: u180 :: u181 :: u182 :: u183 :: u184 :: u185 :: u186 :: u187 :: u188 :: u189 :: u190 :: u191 :: u192 :: u193 :: u194 :: u195 :: u196 :: u197 :: u198 :: u199 :: u200 :: u201 :: u202 :: u203 :: u204 :: u205 :: u206 :: u207 :: u208 :: u209 :: u210 :: u211 :: u212 :: u213 :: u214 :: u215 :: u216 :: u217 :: u218 :: u219 :: u220 :: u221 :: u222 :: u223 :: u224 :: u225 :: u226 :: u227 :: u228 :: u229 :: u230 :: u231 :: u232 :: u233 :: undef :: undef :: undef :: undef :: undef :: undef :: []), defers := Ds'.map markOf } W'))
    (hbx : V.heap[ob]? = some (.cells (opc kd x u cp up cl cc ul uc pp pl pc st) OT (0, 0))) (hox : Tv V (fun b => b < pb) x.k x.t x.c cp cl cc) (hou : Tv V (fun b => b < pb) u.k u.t u.c up ul uc) (hoq : Ints V (fun b => b < pb) path pp pl) (hcb : V.heap[pb + 1]? = some (.cells #[.pointer (some ⟨pb, 0, none⟩)] 60 (0, 0)))
    (hmk : ∀ D ∈ Ds, pb + 3 ≤ D ∧ D < ob ∧ V.heap[D]? = some (.deferred (some []))) (hob : pb + 3 ≤ ob)
    (hbk : BKI (fun b => pb ≤ b ∧ b ≠ pb + 1 ∧ b < ob ∧ b ∉ Ds) pb (r * 125952) (2 * r) (2 * r) V) (hkeep : Keeps (fun b => pb ≤ b ∧ b ≠ pb + 1) W0 V) (hnd : Ds.Nodup)
    (hop : OpAt w ab (ao + r * 11) kd x u path cp up cl cc ul uc pp pl pc st) (hab : ab < w.heap.size) (hkw : Keeps (fun _ => False) w V) (hr : r < sl) (hr2 : r < 20) (hx : x.c.nodes ≤ 3000) (hu : u.c.nodes ≤ 3000) (hwp : w.heap.size ≤ pb)
    (u7 u8 u9 u10 u11 u12 u13 u14 u15 u16 u17 u18 u19 u20 u21 u22 u23 u24 u25 u26 u27 u28 u29 u30 u31 u32 u33 u40 u41 u42 u43 u44 u45 u46 u47 u48 u49 u50 u51 u52 u53 u54 u55 u56 u57 u58 u59 u60 u61 u62 u63 u64 u65 u66 u67 u68 u69 u70 u71 u72 u73 u74 u75 u76 u77 u78 u79 u80 u81 u82 u83 u84 u85 u86 u87 u88 u89 u90 u91 u92 u93 u94 u95 u96 u97 u98 u99 u100 u101 u102 u103 u104 u105 u106 u107 u108 u109 u110 u111 u112 u113 u114 u115 u116 u117 u118 u119 u120 u121 u122 u123 u124 u125 u126 u127 u128 u129 u130 u131 u132 u133 u134 u135 u136 u137 u138 u139 u140 u141 u142 u143 u144 u145 u146 u147 u148 u149 u150 u151 u152 u153 u154 u155 u156 u157 u158 u159 u160 u161 u162 u163 u164 u165 u166 u167 u168 u169 u170 u171 u172 u173 u174 u175 u176 u177 u178 u179 u180 u181 u182 u183 u184 u185 u186 u187 u188 u189 u190 u191 u192 u193 u194 u195 u196 u197 u198 u199 u200 u201 u202 u203 u204 u205 u206 u207 u208 u209 u210 u211 u212 u213 u214 u215 u216 u217 u218 u219 u220 u221 u222 u223 u224 u225 u226 u227 u228 u229 u230 u231 u232 u233 : Value) (hK1 : ∀ a w, (aft7 10).wp Try.prog (Exit.then K Q) a w → K1 a w) :
    (reg7 10).wp Try.prog (Exit.then K1 (Exit.then K Q)) { tmps := List.toArray ((.slice (some ⟨ab, ao, none⟩) sl sc) :: undef :: (.pointer (some ⟨w.heap.size, 0, none⟩)) :: (.pointer (some ⟨pb + 1, 0, none⟩)) :: (.pointer (some ⟨pb + 1 + 1, 0, none⟩)) :: (.int .i64 (r : Int)) :: (.pointer (some ⟨ob, 0, none⟩)) :: u7 :: u8 :: u9 :: u10 :: u11 :: u12 :: u13 :: u14 :: u15 :: u16 :: u17 :: u18 :: u19 :: u20 :: u21 :: u22 :: u23 :: u24 :: u25 :: u26 :: u27 :: u28 :: u29 :: u30 :: u31 :: u32 :: u33 :: (.bool true) :: (.bool false) :: (.agg #[.slice none 0 0, .slice none 0 0, .int .i64 0, .slice none 0 0]) :: (.pointer (some ⟨pb, 0, none⟩)) :: (.agg #[.slice none 0 0, .int .i64 0]) :: (.pointer (some ⟨pb + 1 + 1, 0, none⟩)) :: u40 :: u41 :: u42 :: u43 :: u44 :: u45 :: u46 :: u47 :: u48 :: u49 :: u50 :: u51 :: u52 :: u53 :: u54 :: u55 :: u56 :: u57 :: u58 :: u59 :: u60 :: u61 :: u62 :: u63 :: u64 :: u65 :: u66 :: u67 :: u68 :: u69 :: u70 :: u71 :: u72 :: u73 :: u74 :: u75 :: u76 :: u77 :: u78 :: u79 :: u80 :: u81 :: u82 :: u83 :: u84 :: u85 :: u86 :: u87 :: u88 :: u89 :: u90 :: u91 :: u92 :: u93 :: u94 :: u95 :: u96 :: u97 :: u98 :: u99 :: u100 :: u101 :: u102 :: u103 :: u104 :: u105 :: u106 :: u107 :: u108 :: u109 :: u110 :: u111 :: u112 :: u113 :: u114 :: u115 :: u116 :: u117 :: u118 :: u119 :: u120 :: u121 :: u122 :: u123 :: u124 :: u125 :: u126 :: u127 :: u128 :: u129 :: u130 :: u131 :: u132 :: u133 :: u134 :: u135 :: u136 :: u137 :: u138 :: u139 :: u140 :: u141 :: u142 :: u143 :: u144 :: u145 :: u146 :: u147 :: u148 :: u149 :: u150 :: u151 :: u152 :: u153 :: u154 :: u155 :: u156 :: u157 :: u158 :: u159 :: u160 :: u161 :: u162 :: u163 :: u164 :: u165 :: u166 :: u167 :: u168 :: u169 :: u170 :: u171 :: u172 :: u173 :: u174 :: u175 :: u176 :: u177 :: u178 :: u179 :: u180 :: u181 :: u182 :: u183 :: u184 :: u185 :: u186 :: u187 :: u188 :: u189 :: u190 :: u191 :: u192 :: u193 :: u194 :: u195 :: u196 :: u197 :: u198 :: u199 :: u200 :: u201 :: u202 :: u203 :: u204 :: u205 :: u206 :: u207 :: u208 :: u209 :: u210 :: u211 :: u212 :: u213 :: u214 :: u215 :: u216 :: u217 :: u218 :: u219 :: u220 :: u221 :: u222 :: u223 :: u224 :: u225 :: u226 :: u227 :: u228 :: u229 :: u230 :: u231 :: u232 :: u233 :: undef :: undef :: undef :: undef :: undef :: undef :: []), defers := Ds.map markOf } V := by
  conv => arg 2; whnf
  have hobl := heap_lt hbx
  have hP : Hid (∀ W, Keeps (fun _ => False) V W → Calls Try.prog 21 #[tv x.k x.n x.t cp cl cc] W (TwinM2 x.k x.n x.t x.c W)) := Lib.hid fun W hk => Twin2_any (x.c.nodes + 1) (by omega) x.k x.n x.t x.c _ cp cl cc W (by omega) (hox.next hk)
  have hQ : Hid (∀ W, Keeps (fun _ => False) V W → Calls Try.prog 21 #[tv u.k u.n u.t up ul uc] W (TwinM2 u.k u.n u.t u.c W)) := Lib.hid fun W hk => Twin2_any (u.c.nodes + 1) (by omega) u.k u.n u.t u.c _ up ul uc W (by omega) (hou.next hk)
  have HBX := Lib.hid hbx
  have HOX := Lib.hid hox
  have HOU := Lib.hid hou
  have HOQ := Lib.hid hoq
  have HCB := Lib.hid hcb
  have HMK := Lib.hid hmk
  have HBK := Lib.hid hbk
  have HKP := Lib.hid hkeep
  have HOP := Lib.hid hop
  have HKW := Lib.hid hkw
  clear hbx hox hou hoq hcb hmk hbk hkeep hop hkw
  go_cut [7, 8] from 40 to 233 (TwoC x u V)
  case first =>
    -- DONE
    obtain ⟨_, ⟨a0, a1, a2, a3⟩, ⟨b0, b1, b2, b3⟩⟩ := boxO HBX.out
    have HS : Hid (∀ W, Keeps (fun _ => False) V W → (W.cell? ⟨ob, 1, none⟩ = some (.string x.k) ∧ W.cell? ⟨ob, 2, none⟩ = some (.int .i64 x.n) ∧ W.cell? ⟨ob, 3, none⟩ = some (.string x.t) ∧ W.cell? ⟨ob, 4, none⟩ = some (.slice cp cl cc)) ∧ (W.cell? ⟨ob, 5, none⟩ = some (.string u.k) ∧ W.cell? ⟨ob, 6, none⟩ = some (.int .i64 u.n) ∧ W.cell? ⟨ob, 7, none⟩ = some (.string u.t) ∧ W.cell? ⟨ob, 8, none⟩ = some (.slice up ul uc))) := Lib.hid fun W hk => (boxO (hk.heap HBX.out)).2
    have hk : Keeps (fun _ => False) V V := Keeps.refl _ _
    clear hK HBX HOX HOU HOQ HCB HMK HBK HKP HOP HKW hx hu hr hr2 hwp hab hnd hobl
    go_region_held3 (fun W' => (W'.cell? ⟨ob, 1, none⟩ = some (.string x.k) ∧ W'.cell? ⟨ob, 2, none⟩ = some (.int .i64 x.n) ∧ W'.cell? ⟨ob, 3, none⟩ = some (.string x.t) ∧ W'.cell? ⟨ob, 4, none⟩ = some (.slice cp cl cc)) ∧ (W'.cell? ⟨ob, 5, none⟩ = some (.string u.k) ∧ W'.cell? ⟨ob, 6, none⟩ = some (.int .i64 u.n) ∧ W'.cell? ⟨ob, 7, none⟩ = some (.string u.t) ∧ W'.cell? ⟨ob, 8, none⟩ = some (.slice up ul uc))) (exact HS.out _ (by repeat' (first | with_reducible exact hk | with_reducible refine Keeps.drew ?_ | with_reducible refine Keeps.alloc ?_ _ | with_reducible refine Keeps.setCell ?_ ?_ _ | (intro hh; dsimp only at hh; omega)))) (first | (go_simp; go_at_call 21; (with_reducible change Calls _ _ #[Value.agg #[Value.string x.k, _, _, _]] _ _); refine Calls.mono (hP.out _ (by repeat' (first | with_reducible exact hk | with_reducible refine Keeps.drew ?_ | with_reducible refine Keeps.alloc ?_ _))) ?_; intro e W1 htm; obtain ⟨xp, xl, xc, rfl, hx1, hkx⟩ := TwinM2.tm htm; clear htm; have hk := Keeps.trans (w := V) (by repeat' (first | with_reducible exact hk | with_reducible refine Keeps.drew ?_ | with_reducible refine Keeps.alloc ?_ _)) hkx; have hsx := hkx.size; have hs1 := hk.size; (try (have hzA := z0_box (W := V) hkx; have hlA := heap_lt hzA; obtain ⟨za0, za1, za2, za3, zf0, zf1, zf2, zf3⟩ := box4 hzA)); (try (have hzAB := z00_box (W := V) hkx; obtain ⟨hzA, hzB⟩ := hzAB; have hlA := heap_lt hzA; have hlB := heap_lt hzB; obtain ⟨za0, za1, za2, za3, zf0, zf1, zf2, zf3⟩ := box4 hzA; obtain ⟨zb0, zb1, zb2, zb3, zg0, zg1, zg2, zg3⟩ := box4 hzB))) | (go_simp; go_at_call 21; (with_reducible change Calls _ _ #[Value.agg #[Value.string u.k, _, _, _]] _ _); refine Calls.mono (hQ.out _ (by repeat' (first | with_reducible exact hk | with_reducible refine Keeps.drew ?_ | with_reducible refine Keeps.alloc ?_ _))) ?_; intro e W2 htm; obtain ⟨yp, yl, yc, rfl, hy1, hky⟩ := TwinM2.tm htm; clear htm; have hk := Keeps.trans (w := V) (by repeat' (first | with_reducible exact hk | with_reducible refine Keeps.drew ?_ | with_reducible refine Keeps.alloc ?_ _)) hky; have hsy := hky.size; have hs2 := hk.size; (try simp only [World.size_alloc, World.size_drew] at hsy); have hk12 := Keeps.trans (w := W1) (by repeat' (first | with_reducible exact Keeps.refl _ _ | with_reducible refine Keeps.drew ?_ | with_reducible refine Keeps.alloc ?_ _)) hky; (try (have hzA := Keeps.heap hk12 hzA; have hlA := heap_lt hzA; obtain ⟨za0, za1, za2, za3, zf0, zf1, zf2, zf3⟩ := box4 hzA)); (try (have hzB := Keeps.heap hk12 hzB; have hlB := heap_lt hzB; obtain ⟨zb0, zb1, zb2, zb3, zg0, zg1, zg2, zg3⟩ := box4 hzB)); (try (have hzC := z0_box' (W := W1) hky; have hlC := heap_lt hzC; obtain ⟨zc0, zc1, zc2, zc3, zh0, zh1, zh2, zh3⟩ := box4 hzC)); (try (have hzCD := z00_box' (W := W1) hky; obtain ⟨hzC, hzD⟩ := hzCD; have hlC := heap_lt hzC; have hlD := heap_lt hzD; obtain ⟨zc0, zc1, zc2, zc3, zh0, zh1, zh2, zh3⟩ := box4 hzC; obtain ⟨zd0, zd1, zd2, zd3, zi0, zi1, zi2, zi3⟩ := box4 hzD))))
    all_goals
      go_wp2_with fail
      go_meet
      case rel =>
        have hx3 := hx1.next hk12
        have hb12 := hk12.size
        (try simp only [World.size_alloc, World.size_drew] at hx3); (try simp only [World.size_alloc, World.size_drew] at hy1)
        first
          | (with_reducible refine TwoC.a1 hk hx3 hy1 ?_ ?_) <;> (intro x hx; omega)
          | (with_reducible refine TwoC.a2 hk hx3 hy1 ?_ ?_) <;> (intro x hx; omega)
          | ((with_reducible refine TwoC.b1 hk hx3 hy1 ?_ ?_ ?_ ?_) <;> (first | with_reducible exact hzA | with_reducible exact hzC | omega | (intro x hx; omega)))
          | ((with_reducible refine TwoC.b2 hk hx3 hy1 ?_ ?_ ?_ ?_) <;> (first | with_reducible exact hzA | with_reducible exact hzC | omega | (intro x hx; omega)))
          | ((with_reducible refine TwoC.c1 hk hx3 hy1 ?_ ?_ ?_ ?_ ?_ ?_ ?_) <;> (first | with_reducible exact hzA | with_reducible exact hzB | with_reducible exact hzC | with_reducible exact hzD | omega | (intro x hx; omega)))
  case rest =>
    obtain ⟨Va, hVa⟩ : ∃ X, X = wc := ⟨_, rfl⟩
    subst hVa
    obtain ⟨tb, ub, tp, tl, tc, vp, vl, vc, rfl, rfl, htb, hub, htl, hul, hbt, hbu, ⟨At, htt, hAt⟩, ⟨Au, htu, hAu⟩, hka⟩ := hcut
    obtain ⟨D0, hD0⟩ : ∃ d, d = Va.heap.size := ⟨_, rfl⟩
    have hRa : RS pb ob tb ub D0 Ds kd x u path cp up cl cc ul uc pp pl pc st tp vp tl tc vl vc At Au Va :=
      ⟨hka.heap HBX.out, hbt, hbu, htt, htu, HOX.out.next hka, HOU.out.next hka, HOQ.out.keeps hka (fun _ _ h => h), hka.heap HCB.out, fun D hD => hka.heap (HMK.out D hD).2.2, fun D hD => ⟨(HMK.out D hD).1, (HMK.out D hD).2.1⟩, fun b hb => by have := hAt b hb; omega, fun b hb => by have := hAu b hb; omega, hob, ⟨by omega, by omega⟩, ⟨by omega, by omega⟩, by omega⟩
    have hBa : BKI (CP pb ob D0 Ds (pb + 1)) pb (r * 125952) (2 * r) (2 * r) Va := (HBK.out.next hka).more (fun b hb _ => ⟨.inl hb, hb.2.1⟩) (Nat.le_refl _) (Nat.le_refl _) (Nat.le_refl _)
    have HRA := Lib.hid hRa
    have HBA := Lib.hid hBa
    have HKA := Lib.hid hka
    have HD0 := Lib.hid hD0
    have HC0 : Hid (∀ b, Va.heap.size ≤ b → CP pb ob D0 Ds (pb + 1) b) := Lib.hid fun b hb => ⟨.inr (by omega), by omega⟩
    clear hRa hBa hka hD0 hbt hbu htt htu hAt hAu HBX HOX HOU HOQ HCB HMK HBK hP hQ
    go_wp2_with fail
    conv => arg 2; whnf
    go_wp2_with fail
    go_loopg [9] 2 (fun m n W => ∃ k : Nat, k + m = 2 ∧ n = .int .i64 k ∧ RS pb ob tb ub D0 Ds kd x u path cp up cl cc ul uc pp pl pc st tp vp tl tc vl vc At Au W ∧ BKI (CP pb ob D0 Ds (pb + 1)) pb (r * 125952) (2 * r + k) (2 * r + k) W ∧ Keeps (CP pb ob D0 Ds (pb + 1)) Va W)
    case atStart => exact ⟨0, by omega, rfl, HRA.out, HBA.out, Keeps.refl _ _⟩
    case round =>
      obtain ⟨W, hW⟩ : ∃ X, X = wr := ⟨_, rfl⟩
      subst hW
      obtain ⟨k, hkm, rfl, hRW, hBW, hKW⟩ := hrel
      have HKM := Lib.hid hkm
      have HRW := Lib.hid hRW
      have HBW := Lib.hid hBW
      have HKV := Lib.hid hKW
      have HC : Hid (∀ b, W.heap.size ≤ b → CP pb ob D0 Ds (pb + 1) b) := Lib.hid fun b hb => HC0.out b (by have := hKW.size; omega)
      have hk0 : (0 : Int) ≤ (k : Int) := Int.natCast_nonneg _
      clear hkm hRW hBW hKW HC0
      by_cases hk2 : k < 2
      · have hm1 : 2 * r + k ≤ 1000 := by omega
        have hy1r : ∃ z, copyF x = z := ⟨_, rfl⟩
        obtain ⟨⟨y1, n1⟩, hy1⟩ := hy1r
        have hl1 : y1.c.nodes ≤ 1023 := by have := copyF_lite x; rw [hy1] at this; exact this
        have hy2r : ∃ z, atF x path = z := ⟨_, rfl⟩
        obtain ⟨⟨y2, n2⟩, hy2⟩ := hy2r
        have hl2 : y2.c.nodes ≤ 1023 := by have := atF_lite x path; rw [hy2] at this; exact this
        have hy3r : ∃ z, putF x path u = z := ⟨_, rfl⟩
        obtain ⟨⟨y3, n3⟩, hy3⟩ := hy3r
        have hl3 : y3.c.nodes ≤ 1023 := by have := putF_lite x path u; rw [hy3] at this; exact this
        have hz := Copy_any x tp tl tc _ W HRW.out.tt.tv
        rw [hy1] at hz
        obtain ⟨t0, t1, t2, t3, _⟩ := box4 HRW.out.bt
        have HY1 := Lib.hid hy1
        have HY2 := Lib.hid hy2
        have HY3 := Lib.hid hy3
        clear hy1 hy2 hy3
        go_wp2_with fail
        refine hz.mono ?_
        clear hz t0 t1 t2 t3
        intro e U1 htr
        obtain ⟨p1, l1, c1, b1, rfl, ht1, hk1⟩ := htr.tr hl1
        clear htr
        conv => whnf
        obtain ⟨V1, hV1⟩ : ∃ X, X = U1.alloc (.cells (four y1.k y1.n y1.t p1 l1 c1) T) := ⟨_, rfl⟩
        have hkb1 : Keeps (fun _ => False) U1 V1 := by rw [hV1]; exact (Keeps.refl _ _).alloc _
        have hb1 : V1.heap[U1.heap.size]? = some (.cells (four y1.k y1.n y1.t p1 l1 c1) T (0, 0)) := by rw [hV1]; exact heap_alloc_new _ _
        have HV1 := Lib.hid hV1
        have HB1 := Lib.hid hb1
        have HT1 := Lib.hid ht1
        have HKB1 := Lib.hid hkb1
        have HK1 := Lib.hid (hk1.trans hkb1)
        clear hV1 hb1 ht1 hkb1 hk1
        go_upto_region 15 with fail
        rw [← HV1.out]
        have hR1 := HRW.out.next HK1.out
        have hz := At_any x path tp tl tc _ _ pp pl pc V1 hR1.tt.tv hR1.oq
        rw [HY2.out] at hz
        obtain ⟨t0, t1, t2, t3, _⟩ := box4 hR1.bt
        obtain ⟨⟨_, o9, _⟩, _, _⟩ := boxO hR1.op
        clear hR1 HV1
        go_wp2_with fail
        refine hz.mono ?_
        clear hz t0 t1 t2 t3 o9
        intro e U2 htr
        obtain ⟨p2, l2, c2, b2, rfl, ht2, hk2⟩ := htr.tr hl2
        clear htr
        conv => whnf
        obtain ⟨V2, hV2⟩ : ∃ X, X = U2.alloc (.cells (four y2.k y2.n y2.t p2 l2 c2) T) := ⟨_, rfl⟩
        have hkb2 : Keeps (fun _ => False) U2 V2 := by rw [hV2]; exact (Keeps.refl _ _).alloc _
        have hb2 : V2.heap[U2.heap.size]? = some (.cells (four y2.k y2.n y2.t p2 l2 c2) T (0, 0)) := by rw [hV2]; exact heap_alloc_new _ _
        have HV2 := Lib.hid hV2
        have HB2 := Lib.hid hb2
        have HT2 := Lib.hid ht2
        have HKB2 := Lib.hid hkb2
        have HK2 := Lib.hid (hk2.trans hkb2)
        clear hV2 hb2 ht2 hkb2 hk2
        go_upto_region 16 with fail
        rw [← HV2.out]
        have hR2 := (HRW.out.next HK1.out).next HK2.out
        have hz := Put_any x u path tp vp tl tc vl vc _ _ _ pp pl pc V2 hR2.tt.tv hR2.oq hR2.tu.tv
        rw [HY3.out] at hz
        obtain ⟨t0, t1, t2, t3, _⟩ := box4 hR2.bt
        obtain ⟨v0, v1, v2, v3, _⟩ := box4 hR2.bu
        obtain ⟨⟨_, o9, _⟩, _, _⟩ := boxO hR2.op
        clear hR2 HV2
        go_wp2_with fail
        refine hz.mono ?_
        clear hz t0 t1 t2 t3 v0 v1 v2 v3 o9
        intro e U3 htr
        obtain ⟨p3, l3, c3, b3, rfl, ht3, hk3⟩ := htr.tr hl3
        clear htr
        conv => whnf
        obtain ⟨V3, hV3⟩ : ∃ X, X = U3.alloc (.cells (four y3.k y3.n y3.t p3 l3 c3) T) := ⟨_, rfl⟩
        have hkb3 : Keeps (fun _ => False) U3 V3 := by rw [hV3]; exact (Keeps.refl _ _).alloc _
        have hb3 : V3.heap[U3.heap.size]? = some (.cells (four y3.k y3.n y3.t p3 l3 c3) T (0, 0)) := by rw [hV3]; exact heap_alloc_new _ _
        have HV3 := Lib.hid hV3
        have HB3 := Lib.hid hb3
        have HT3 := Lib.hid ht3
        have HKB3 := Lib.hid hkb3
        have HK3 := Lib.hid (hk3.trans hkb3)
        clear hV3 hb3 ht3 hkb3 hk3
        go_upto_region 17 with fail
        rw [← HV3.out]
        clear HV3
        have hR3 := ((HRW.out.next HK1.out).next HK2.out).next HK3.out
        have cb0 : V3.cell? ⟨pb + 1, 0, none⟩ = some (.pointer (some ⟨pb, 0, none⟩)) := by simp [World.cell?, hR3.cb]
        obtain ⟨e0', e1', e2', e3', _⟩ := box4 (HK3.out.heap (HK2.out.heap HB1.out))
        obtain ⟨f0', f1', f2', f3', _⟩ := box4 (HK3.out.heap HB2.out)
        obtain ⟨g0', g1', g2', g3', _⟩ := box4 HB3.out
        obtain ⟨V4, hV4⟩ : ∃ X, X = V3.alloc (.cells (c12 y1 y2 y3 p1 l1 c1 p2 l2 c2 p3 l3 c3) T) := ⟨_, rfl⟩
        have hkb4 : Keeps (fun _ => False) V3 V4 := by rw [hV4]; exact (Keeps.refl _ _).alloc _
        have hb4 : V4.heap[V3.heap.size]? = some (.cells (c12 y1 y2 y3 p1 l1 c1 p2 l2 c2 p3 l3 c3) T (0, 0)) := by rw [hV4]; exact heap_alloc_new _ _
        have HKW4 := Lib.hid (((HK1.out.trans HK2.out).trans HK3.out).trans hkb4)
        have hx1 : Tr V4 W.heap.size y1 p1 l1 c1 b1 := (((HT1.out.next HKB1.out).next HK2.out).next HK3.out).next hkb4
        have hx2 : Tr V4 V1.heap.size y2 p2 l2 c2 b2 := ((HT2.out.next HKB2.out).next HK3.out).next hkb4
        have hx3 : Tr V4 V2.heap.size y3 p3 l3 c3 b3 := (HT3.out.next HKB3.out).next hkb4
        have hsz1 := HKB1.out.size
        have hsz2 := HKB2.out.size
        have hs1 := HK1.out.size
        have hs2 := HK2.out.size
        have hz := HBW.out.keepT HKW4.out HC.out hm1 hb4 hx1 hx2 hx3 (Nat.le_refl _) hs1 hs2 (fun b hb => by have := HT1.out.hi b hb; omega) (fun b hb => by have := HT2.out.hi b hb; omega)
        have hRX : Hid (RS pb ob tb ub D0 Ds kd x u path cp up cl cc ul uc pp pl pc st tp vp tl tc vl vc At Au V4) := Lib.hid (hR3.next hkb4)
        have HV4 := Lib.hid hV4
        clear hb4 hkb4 hx1 hx2 hx3 hsz1 hsz2 hs1 hs2 hV4 hR3
        go_wp2_with fail
        rw [← HV4.out]
        refine hz.mono ?_
        clear hz HV4 cb0 e0' e1' e2' e3' f0' f1' f2' f3' g0' g1' g2' g3'
        rintro e X1 ⟨⟨uu, rfl⟩, hbX, hkX⟩
        conv => whnf
        have hRX1 := hRX.out.byC hkX
        have HRX := Lib.hid hRX1
        have HBX1 := Lib.hid hbX
        have HKX := Lib.hid hkX
        have hz := Kinds_any x tp tl tc _ X1 hRX1.tt.tv
        obtain ⟨t0, t1, t2, t3, _⟩ := box4 hRX1.bt
        clear hRX1 hbX hkX hRX
        go_wp2_with fail
        refine hz.mono ?_
        clear hz t0 t1 t2 t3
        rintro e X2 ⟨np, nl, nc, rfl, hrow, hk2x⟩
        conv => whnf
        obtain ⟨X3, hX3⟩ : ∃ X, X = X2.alloc (.cells #[.slice np nl nc] TSn) := ⟨_, rfl⟩
        have hkb : Keeps (fun _ => False) X2 X3 := by rw [hX3]; exact (Keeps.refl _ _).alloc _
        have hbn : X3.heap[X2.heap.size]? = some (.cells #[.slice np nl nc] TSn (0, 0)) := by rw [hX3]; exact heap_alloc_new _ _
        have hnl : nl = (kindsF x).length := row_len hrow
        have hnz : nl ≤ 100000 := by have := kindsF_le x; omega
        have hrow3 : X3.ownsRow X1.heap.size TSt 1 (.slice np nl nc) nl ((kindsF x).map .string) := by
          rw [← hnl] at hrow
          exact ownsRow_same hrow (fun b hb => hkb.block b (hrow.lt b (by simpa using hb)).2 (fun h => h))
        have hs12 := HKX.out.size
        have hsW4 := HKW4.out.size
        have hz := HBX1.out.keepN (hk2x.trans hkb) (fun b hb => HC.out b (by omega)) (by omega) hbn hrow3 hk2x.size hnz
        have HR3 := Lib.hid (HRX.out.next (hk2x.trans hkb))
        have HX3 := Lib.hid hX3
        have HKX2 := Lib.hid (hk2x.trans hkb)
        clear hkb hbn hnl hnz hrow hrow3 hk2x hX3 hs12 hsW4 HRX
        go_wp2_with fail
        rw [← HX3.out]
        refine hz.mono ?_
        clear hz HX3
        rintro e X4 ⟨⟨uu2, rfl⟩, hb4, hk4⟩
        conv => whnf
        have HB4 := Lib.hid hb4
        have HR4 := Lib.hid (HR3.out.byC hk4)
        have HKF := Lib.hid ((((HKV.out.trans' HKW4.out (fun _ h => h.elim)).trans HKX.out).trans' HKX2.out (fun _ h => h.elim)).trans hk4)
        clear hb4 hk4 HR3
        go_wp2_with fail
        go_roundg (gk - 1)
        case measure => have := HKM.out; omega
        case rel => exact ⟨k + 1, by have := HKM.out; omega, by go_num, HR4.out, HB4.out, HKF.out⟩
      · obtain rfl : k = 2 := by have := HKM.out; omega
        go_upto_region 19 with fail
        have hy1r : ∃ z, copyF x = z := ⟨_, rfl⟩
        obtain ⟨⟨y1, n1⟩, hy1⟩ := hy1r
        have hl1 : y1.c.nodes ≤ 1023 := by have := copyF_lite x; rw [hy1] at this; exact this
        have hy2r : ∃ z, atF x path = z := ⟨_, rfl⟩
        obtain ⟨⟨y2, n2⟩, hy2⟩ := hy2r
        have hl2 : y2.c.nodes ≤ 1023 := by have := atF_lite x path; rw [hy2] at this; exact this
        have hy3r : ∃ z, putF x path u = z := ⟨_, rfl⟩
        obtain ⟨⟨y3, n3⟩, hy3⟩ := hy3r
        have hl3 : y3.c.nodes ≤ 1023 := by have := putF_lite x path u; rw [hy3] at this; exact this
        have hz := Copy_any x tp tl tc _ W HRW.out.tt.tv
        rw [hy1] at hz
        obtain ⟨t0, t1, t2, t3, _⟩ := box4 HRW.out.bt
        have HY1 := Lib.hid hy1
        have HY2 := Lib.hid hy2
        have HY3 := Lib.hid hy3
        clear hy1 hy2 hy3
        go_wp2_with fail
        refine hz.mono ?_
        clear hz t0 t1 t2 t3
        intro e U1 htr
        obtain ⟨p1, l1, c1, b1, rfl, ht1, hk1⟩ := htr.tr hl1
        clear htr
        conv => whnf
        obtain ⟨V1, hV1⟩ : ∃ X, X = U1.alloc (.cells (four y1.k y1.n y1.t p1 l1 c1) T) := ⟨_, rfl⟩
        have hkb1 : Keeps (fun _ => False) U1 V1 := by rw [hV1]; exact (Keeps.refl _ _).alloc _
        have hb1 : V1.heap[U1.heap.size]? = some (.cells (four y1.k y1.n y1.t p1 l1 c1) T (0, 0)) := by rw [hV1]; exact heap_alloc_new _ _
        have HV1 := Lib.hid hV1
        have HB1 := Lib.hid hb1
        have HT1 := Lib.hid ht1
        have HKB1 := Lib.hid hkb1
        have HK1 := Lib.hid (hk1.trans hkb1)
        clear hV1 hb1 ht1 hkb1 hk1
        go_upto_region 20 with fail
        rw [← HV1.out]
        have hR1 := HRW.out.next HK1.out
        have hz := At_any x path tp tl tc _ _ pp pl pc V1 hR1.tt.tv hR1.oq
        rw [HY2.out] at hz
        obtain ⟨t0, t1, t2, t3, _⟩ := box4 hR1.bt
        obtain ⟨⟨_, o9, _⟩, _, _⟩ := boxO hR1.op
        clear hR1 HV1
        go_wp2_with fail
        refine hz.mono ?_
        clear hz t0 t1 t2 t3 o9
        intro e U2 htr
        obtain ⟨p2, l2, c2, b2, rfl, ht2, hk2⟩ := htr.tr hl2
        clear htr
        conv => whnf
        obtain ⟨V2, hV2⟩ : ∃ X, X = U2.alloc (.cells (four y2.k y2.n y2.t p2 l2 c2) T) := ⟨_, rfl⟩
        have hkb2 : Keeps (fun _ => False) U2 V2 := by rw [hV2]; exact (Keeps.refl _ _).alloc _
        have hb2 : V2.heap[U2.heap.size]? = some (.cells (four y2.k y2.n y2.t p2 l2 c2) T (0, 0)) := by rw [hV2]; exact heap_alloc_new _ _
        have HV2 := Lib.hid hV2
        have HB2 := Lib.hid hb2
        have HT2 := Lib.hid ht2
        have HKB2 := Lib.hid hkb2
        have HK2 := Lib.hid (hk2.trans hkb2)
        clear hV2 hb2 ht2 hkb2 hk2
        go_upto_region 21 with fail
        rw [← HV2.out]
        have hR2 := (HRW.out.next HK1.out).next HK2.out
        have hz := Put_any x u path tp vp tl tc vl vc _ _ _ pp pl pc V2 hR2.tt.tv hR2.oq hR2.tu.tv
        rw [HY3.out] at hz
        obtain ⟨t0, t1, t2, t3, _⟩ := box4 hR2.bt
        obtain ⟨v0, v1, v2, v3, _⟩ := box4 hR2.bu
        obtain ⟨⟨_, o9, _⟩, _, _⟩ := boxO hR2.op
        clear hR2 HV2
        go_wp2_with fail
        refine hz.mono ?_
        clear hz t0 t1 t2 t3 v0 v1 v2 v3 o9
        intro e U3 htr
        obtain ⟨p3, l3, c3, b3, rfl, ht3, hk3⟩ := htr.tr hl3
        clear htr
        conv => whnf
        obtain ⟨V3, hV3⟩ : ∃ X, X = U3.alloc (.cells (four y3.k y3.n y3.t p3 l3 c3) T) := ⟨_, rfl⟩
        have hkb3 : Keeps (fun _ => False) U3 V3 := by rw [hV3]; exact (Keeps.refl _ _).alloc _
        have hb3 : V3.heap[U3.heap.size]? = some (.cells (four y3.k y3.n y3.t p3 l3 c3) T (0, 0)) := by rw [hV3]; exact heap_alloc_new _ _
        have HV3 := Lib.hid hV3
        have HB3 := Lib.hid hb3
        have HT3 := Lib.hid ht3
        have HKB3 := Lib.hid hkb3
        have HK3 := Lib.hid (hk3.trans hkb3)
        clear hV3 hb3 ht3 hkb3 hk3
        go_upto_region 22 with fail
        rw [← HV3.out]
        clear HV3
        have hR3 := ((HRW.out.next HK1.out).next HK2.out).next HK3.out
        have cb0 : V3.cell? ⟨pb + 1, 0, none⟩ = some (.pointer (some ⟨pb, 0, none⟩)) := by simp [World.cell?, hR3.cb]
        obtain ⟨e0', e1', e2', e3', _⟩ := box4 (HK3.out.heap (HK2.out.heap HB1.out))
        obtain ⟨f0', f1', f2', f3', _⟩ := box4 (HK3.out.heap HB2.out)
        obtain ⟨g0', g1', g2', g3', _⟩ := box4 HB3.out
        obtain ⟨V4, hV4⟩ : ∃ X, X = V3.alloc (.cells (c12 y1 y2 y3 p1 l1 c1 p2 l2 c2 p3 l3 c3) T) := ⟨_, rfl⟩
        have hkb4 : Keeps (fun _ => False) V3 V4 := by rw [hV4]; exact (Keeps.refl _ _).alloc _
        have hb4 : V4.heap[V3.heap.size]? = some (.cells (c12 y1 y2 y3 p1 l1 c1 p2 l2 c2 p3 l3 c3) T (0, 0)) := by rw [hV4]; exact heap_alloc_new _ _
        have HKW4 := Lib.hid (((HK1.out.trans HK2.out).trans HK3.out).trans hkb4)
        have hx1 : Tr V4 W.heap.size y1 p1 l1 c1 b1 := (((HT1.out.next HKB1.out).next HK2.out).next HK3.out).next hkb4
        have hx2 : Tr V4 V1.heap.size y2 p2 l2 c2 b2 := ((HT2.out.next HKB2.out).next HK3.out).next hkb4
        have hx3 : Tr V4 V2.heap.size y3 p3 l3 c3 b3 := (HT3.out.next HKB3.out).next hkb4
        have hsz1 := HKB1.out.size
        have hsz2 := HKB2.out.size
        have hs1 := HK1.out.size
        have hs2 := HK2.out.size
        have hz := HBW.out.take3 HKW4.out HC.out (by omega) hb4 hx1 hx2 hx3 (Nat.le_refl _) hs1 hs2 (fun b hb => by have := HT1.out.hi b hb; omega) (fun b hb => by have := HT2.out.hi b hb; omega)
        have hRX : Hid (RS pb ob tb ub D0 Ds kd x u path cp up cl cc ul uc pp pl pc st tp vp tl tc vl vc At Au V4) := Lib.hid (hR3.next hkb4)
        have HV4 := Lib.hid hV4
        clear hb4 hkb4 hx1 hx2 hx3 hsz1 hsz2 hs1 hs2 hV4 hR3
        go_wp2_with fail
        rw [← HV4.out]
        refine hz.mono ?_
        clear hz HV4 cb0 e0' e1' e2' e3' f0' f1' f2' f3' g0' g1' g2' g3'
        rintro e X1 ⟨⟨uu, rfl⟩, hbX, hkX⟩
        conv => whnf
        have HBX1 := Lib.hid hbX
        have HRX := Lib.hid (hRX.out.byC hkX)
        have HKF := Lib.hid ((HKV.out.trans' HKW4.out (fun _ h => h.elim)).trans hkX)
        clear hbX hkX hRX
        go_upto_region 23 with fail
        have hr1 := HRX.out
        have l1' := hr1.l1
        have l2' := hr1.l2
        refine freshC (w := w) hK hr1 (HBX1.out.more (fun b hb _ => hb) (Nat.le_refl _) (by omega) (by omega)) ((HKP.out.trans' HKA.out (fun _ h => h.elim)).trans' HKF.out (fun b hb hl => ?_)) hnd HOP.out hab ((HKW.out.trans HKA.out).trans' HKF.out (fun b hb hl => ?_)) hr hr2 hx hu hwp _ _ _ _ _ _ _ _ _ _ _ _ _ _ _ _ _ _ _ _ _ _ _ _ _ _ _ _ _ _ _ _ _ _ _ _ _ _ _ _ _ _ _ _ _ _ _ _ _ _ _ _ _ _ _ _ _ _ _ _ _ _ _ _ _ _ _ _ _ _ _ _ _ _ _ _ _ _ _ _ _ _ _ _ _ _ _ _ _ _ _ _ _ _ _ _ _ _ _ _ _ _ _ _ _ _ _ _ _ _ _ _ _ _ _ _ _ _ _ _ _ _ _ _ _ _ _ _ _ _ _ _ _ _ _ _ _ _ _ _ _ _ _ _ _ _ _ _ _ _ _ _ _ _ _ _ _ _ _ _ _ _ _ _ _ _ _ _ _ _ _ _ _ _ _ _ _ _ _ _ _ _ _ _ _ _ _ _ _ _ _ _ _ _ _ _ _ _ _ _ _ _ _ _ _ _ _ _ _ _ _ _ _ _ _ _ _ _ _ (by assumption)
        · rcases hb.1 with h | h
          · exact ⟨h.1, h.2.1⟩
          · exact ⟨by omega, by omega⟩
        · rcases hb.1 with h | h
          · have := h.1; omega
          · omega
end Go.Proofs.Ytnphhibfiklfjaa
