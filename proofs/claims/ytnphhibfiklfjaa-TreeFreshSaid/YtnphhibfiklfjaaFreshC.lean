/-
  espalierlaw4.TreeFresh: the round's third part: the range whose paths are written over and whose trees are taken.
-/
import Derived.Test.YtnphhibfiklfjaaFreshD

import Derived.Sort.LoopGhostIn

import Derived.Deep.CutBlock

set_option linter.unusedVariables false

set_option linter.unusedSimpArgs false

namespace Go.Proofs.Ytnphhibfiklfjaa

open Go.RowKit Go.Shelf

attribute [local go_sem] Oper.semAt_some

set_option maxRecDepth 1000000 in
set_option maxHeartbeats 12800000 in
theorem freshC {w W0 V : World} {ab ao sl sc pb r ob tb ub D0 : Nat} {Ds : List Nat} {kd : Int} {x u : Nd} {path : List Int} {cp up : Option Addr} {cl cc ul uc : Nat} {pp : Option Addr} {pl pc : Nat} {st : Int} {tp vp : Option Addr} {tl tc vl vc : Nat} {At Au : Nat → Prop} {K K1 : Act → World → Prop} {Q : Exit → Act → World → Prop}
    (hK : Hid (∀ (W' : World) (Ds' : List Nat) (u6 u7 u8 u9 u10 u11 u12 u13 u14 u15 u16 u17 u18 u19 u20 u21 u22 u23 u24 u25 u26 u27 u28 u29 u30 u31 u32 u33 u40 u41 u42 u43 u44 u45 u46 u47 u48 u49 u50 u51 u52 u53 u54 u55 u56 u57 u58 u59 u60 u61 u62 u63 u64 u65 u66 u67 u68 u69 u70 u71 u72 u73 u74 u75 u76 u77 u78 u79 u80 u81 u82 u83 u84 u85 u86 u87 u88 u89 u90 u91 u92 u93 u94 u95 u96 u97 u98 u99 u100 u101 u102 u103 u104 u105 u106 u107 u108 u109 u110 u111 u112 u113 u114 u115 u116 u117 u118 u119 u120 u121 u122 u123 u124 u125 u126 u127 u128 u129 u130 u131 u132 u133 u134 u135 u136 u137 u138 u139 u140 u141 u142 u143 u144 u145 u146 u147 u148 u149 u150 u151 u152 u153 u154 u155 u156 u157 u158 u159 u160 u161 u162 u163 u164 u165 u166 u167 u168 u169 u170 u171 u172 u173 u174 u175 u176 u177 u178 u179 u180 u181 u182 u183 u184 u185 u186 u187 u188 u189 u190 u191 u192 u193 u194 u195 u196 u197 u198 u199 u200 u201 u202 u203 u204 u205 u206 u207 u208 u209 u210 u211 u212 u213 u214 u215 u216 u217 u218 u219 u220 u221 u222 u223 u224 u225 u226 u227 u228 u229 u230 u231 u232 u233 : Value), FI W0 pb (r + 1) Ds' W' → K { tmps := List.toArray ((.slice (some ⟨ab, ao, none⟩) sl sc) :: undef :: (.pointer (some ⟨w.heap.size, 0, none⟩)) :: (.pointer (some ⟨pb + 1, 0, none⟩)) :: (.pointer (some ⟨pb + 1 + 1, 0, none⟩)) :: (.int .i64 (r : Int)) :: u6 :: u7 :: u8 :: u9 :: u10 :: u11 :: u12 :: u13 :: u14 :: u15 :: u16 :: u17 :: u18 :: u19 :: u20 :: u21 :: u22 :: u23 :: u24 :: u25 :: u26 :: u27 :: u28 :: u29 :: u30 :: u31 :: u32 :: u33 :: (.bool true) :: (.bool false) :: (.agg #[.slice none 0 0, .slice none 0 0, .int .i64 0, .slice none 0 0]) :: (.pointer (some ⟨pb, 0, none⟩)) :: (.agg #[.slice none 0 0, .int .i64 0]) :: (.pointer (some ⟨pb + 1 + 1, 0, none⟩)) :: u40 :: u41 :: u42 :: u43 :: u44 :: u45 :: u46 :: u47 :: u48 :: u49 :: u50 :: u51 :: u52 :: u53 :: u54 :: u55 :: u56 :: u57 :: u58 :: u59 :: u60 :: u61 :: u62 :: u63 :: u64 :: u65 :: u66 :: u67 :: u68 :: u69 :: u70 :: u71 :: u72 :: u73 :: u74 :: u75 :: u76 :: u77 :: u78 :: u79 :: u80 :: u81 :: u82 :: u83 :: u84 :: u85 :: u86 :: u87 :: u88 :: u89 :: u90 :: u91 :: u92 :: u93 :: u94 :: u95 :: u96 :: u97 :: u98 :: u99 :: u100 :: u101 :: u102 :: u103 :: u104 :: u105 :: u106 :: u107 :: u108 :: u109 :: u110 :: u111 :: u112 :: u113 :: u114 :: u115 :: u116 :: u117 :: u118 :: u119 :: u120 :: u121 :: u122 :: u123 :: u124 :: u125 :: u126 :: u127 :: u128 :: u129 :: u130 :: u131 :: u132 :: u133 :: u134 :: u135 :: u136 :: u137 :: u138 :: u139 :: u140 :: u141 :: u142 :: u143 :: u144 :: u145 :: u146 :: u147 :: u148 :: u149 :: u150 :: u151 :: u152 :: u153 :: u154 :: u155 :: u156 :: u157 :: u158 :: u159 :: u160 :: u161 :: u162 :: u163 :: u164 :: u165 :: u166 :: u167 :: u168 :: u169 :: u170 :: u171 :: u172 :: u173 :: u174 :: u175 :: u176 :: u177 :: u178 :: u179 :: u180 :: u181 :: u182 :: u183 :: u184 :: u185 :: u186 :: u187 :: u188 :: u189 :: u190 :: u191 :: u192 :: u193 :: u194 :: u195 :: u196 :: u197 :: u198 :: u199 :: u200 :: u201 :: u202 :: u203 :: u204 :: u205 :: u206 :: u207 :: u208 :: u209 :: u210 :: u211 :: u212 :: u213 :: u214 :: u215 :: u216 :: u217 :: u218 :: u219 :: u220 :: u221 :: u222 :: u223 :: u224 :: u225 :: u226 :: u227 :: u228 :: u229 :: u230 :: u231 :: u232 :: u233 :: undef :: undef :: undef :: undef :: undef :: undef :: []), defers := Ds'.map markOf } W'))
    (hR : RS pb ob tb ub D0 Ds kd x u path cp up cl cc ul uc pp pl pc st tp vp tl tc vl vc At Au V) (hbk : BKI (CP pb ob D0 Ds (pb + 1)) pb (r * 125952 + 3072) (2 * (r + 1)) (2 * (r + 1)) V) (hkeep : Keeps (fun b => pb ≤ b ∧ b ≠ pb + 1) W0 V) (hnd : Ds.Nodup)
    (hop : OpAt w ab (ao + r * 11) kd x u path cp up cl cc ul uc pp pl pc st) (hab : ab < w.heap.size) (hkw : Keeps (fun _ => False) w V) (hr : r < sl) (hr2 : r < 20) (hx : x.c.nodes ≤ 3000) (hu : u.c.nodes ≤ 3000) (hwp : w.heap.size ≤ pb)
    (u9 u10 u11 u12 u13 u14 u15 u16 u17 u18 u19 u20 u21 u22 u23 u24 u25 u26 u27 u28 u29 u30 u31 u32 u33 u40 u41 u42 u43 u44 u45 u46 u47 u48 u49 u50 u51 u52 u53 u54 u55 u56 u57 u58 u59 u60 u61 u62 u63 u64 u65 u66 u67 u68 u69 u70 u71 u72 u73 u74 u75 u76 u77 u78 u79 u80 u81 u82 u83 u84 u85 u86 u87 u88 u89 u90 u91 u92 u93 u94 u95 u96 u97 u98 u99 u100 u101 u102 u103 u104 u105 u106 u107 u108 u109 u110 u111 u112 u113 u114 u115 u116 u117 u118 u119 u120 u121 u122 u123 u124 u125 u126 u127 u128 u129 u130 u131 u132 u133 u134 u135 u136 u137 u138 u139 u140 u141 u142 u143 u144 u145 u146 u147 u148 u149 u150 u151 u152 u153 u154 u155 u156 u157 u158 u159 u160 u161 u162 u163 u164 u165 u166 u167 u168 u169 u170 u171 u172 u173 u174 u175 u176 u177 u178 u179 u180 u181 u182 u183 u184 u185 u186 u187 u188 u189 u190 u191 u192 u193 u194 u195 u196 u197 u198 u199 u200 u201 u202 u203 u204 u205 u206 u207 u208 u209 u210 u211 u212 u213 u214 u215 u216 u217 u218 u219 u220 u221 u222 u223 u224 u225 u226 u227 u228 u229 u230 u231 u232 u233 : Value) (hK1 : ∀ a w, (aft7 23).wp Try.prog (Exit.then K Q) a w → K1 a w) :
    (reg7 23).wp Try.prog (Exit.then K1 (Exit.then K Q)) { tmps := List.toArray ((.slice (some ⟨ab, ao, none⟩) sl sc) :: undef :: (.pointer (some ⟨w.heap.size, 0, none⟩)) :: (.pointer (some ⟨pb + 1, 0, none⟩)) :: (.pointer (some ⟨pb + 1 + 1, 0, none⟩)) :: (.int .i64 (r : Int)) :: (.pointer (some ⟨ob, 0, none⟩)) :: (.pointer (some ⟨tb, 0, none⟩)) :: (.pointer (some ⟨ub, 0, none⟩)) :: u9 :: u10 :: u11 :: u12 :: u13 :: u14 :: u15 :: u16 :: u17 :: u18 :: u19 :: u20 :: u21 :: u22 :: u23 :: u24 :: u25 :: u26 :: u27 :: u28 :: u29 :: u30 :: u31 :: u32 :: u33 :: (.bool true) :: (.bool false) :: (.agg #[.slice none 0 0, .slice none 0 0, .int .i64 0, .slice none 0 0]) :: (.pointer (some ⟨pb, 0, none⟩)) :: (.agg #[.slice none 0 0, .int .i64 0]) :: (.pointer (some ⟨pb + 1 + 1, 0, none⟩)) :: u40 :: u41 :: u42 :: u43 :: u44 :: u45 :: u46 :: u47 :: u48 :: u49 :: u50 :: u51 :: u52 :: u53 :: u54 :: u55 :: u56 :: u57 :: u58 :: u59 :: u60 :: u61 :: u62 :: u63 :: u64 :: u65 :: u66 :: u67 :: u68 :: u69 :: u70 :: u71 :: u72 :: u73 :: u74 :: u75 :: u76 :: u77 :: u78 :: u79 :: u80 :: u81 :: u82 :: u83 :: u84 :: u85 :: u86 :: u87 :: u88 :: u89 :: u90 :: u91 :: u92 :: u93 :: u94 :: u95 :: u96 :: u97 :: u98 :: u99 :: u100 :: u101 :: u102 :: u103 :: u104 :: u105 :: u106 :: u107 :: u108 :: u109 :: u110 :: u111 :: u112 :: u113 :: u114 :: u115 :: u116 :: u117 :: u118 :: u119 :: u120 :: u121 :: u122 :: u123 :: u124 :: u125 :: u126 :: u127 :: u128 :: u129 :: u130 :: u131 :: u132 :: u133 :: u134 :: u135 :: u136 :: u137 :: u138 :: u139 :: u140 :: u141 :: u142 :: u143 :: u144 :: u145 :: u146 :: u147 :: u148 :: u149 :: u150 :: u151 :: u152 :: u153 :: u154 :: u155 :: u156 :: u157 :: u158 :: u159 :: u160 :: u161 :: u162 :: u163 :: u164 :: u165 :: u166 :: u167 :: u168 :: u169 :: u170 :: u171 :: u172 :: u173 :: u174 :: u175 :: u176 :: u177 :: u178 :: u179 :: u180 :: u181 :: u182 :: u183 :: u184 :: u185 :: u186 :: u187 :: u188 :: u189 :: u190 :: u191 :: u192 :: u193 :: u194 :: u195 :: u196 :: u197 :: u198 :: u199 :: u200 :: u201 :: u202 :: u203 :: u204 :: u205 :: u206 :: u207 :: u208 :: u209 :: u210 :: u211 :: u212 :: u213 :: u214 :: u215 :: u216 :: u217 :: u218 :: u219 :: u220 :: u221 :: u222 :: u223 :: u224 :: u225 :: u226 :: u227 :: u228 :: u229 :: u230 :: u231 :: u232 :: u233 :: undef :: undef :: undef :: undef :: undef :: undef :: []), defers := Ds.map markOf } V := by
  conv => arg 2; whnf
  obtain ⟨kx, hkx⟩ : ∃ b, b = V.heap.size := ⟨_, rfl⟩
  obtain ⟨Vk, hVk⟩ : ∃ X, X = V.alloc (.cells #[.int .i64 0] 3) := ⟨_, rfl⟩
  have hk0 : Keeps (fun _ => False) V Vk := by rw [hVk]; exact (Keeps.refl _ _).alloc _
  have hA0 : Vk.heap[kx]? = some (.cells #[.int .i64 0] 3 (0, 0)) := by rw [hVk, hkx]; exact heap_alloc_new _ _
  have hR0 := hR.next hk0
  have hl4 := hR.l4
  have hkD : D0 ≤ kx := by omega
  have hbk0 : BKI (fun b => CP pb ob D0 Ds (pb + 1) b ∧ b < kx) pb (r * 125952 + 3072) (2 * (r + 1)) (2 * (r + 1)) Vk := (hbk.more (fun b hb hl => ⟨hb, by omega⟩) (Nat.le_refl _) (Nat.le_refl _) (Nat.le_refl _)).next hk0
  have HR := Lib.hid hR0
  have HBK := Lib.hid hbk0
  have HKP := Lib.hid (hkeep.trans' hk0 (fun _ h => h.elim))
  have HA0 := Lib.hid hA0
  have HOP := Lib.hid hop
  have HKW := Lib.hid (hkw.trans hk0)
  have HKX := Lib.hid hkx
  have HVK := Lib.hid hVk
  have hz := Each_anyN x tp tl tc _ Vk hR0.tt.tv
  obtain ⟨t0, t1, t2, t3, _⟩ := box4 hR0.bt
  clear hR hbk hkeep hkx hop hkw hk0 hA0 hR0 hbk0 hVk
  go_upto_region 24 with fail
  conv => arg 2; whnf
  apply wp_seq_k
  intro _ _
  go_upto_region 24 with fail
  rw [← HVK.out, ← HKX.out]
  go_wp2_with fail
  refine hz.mono ?_
  clear hz t0 t1 t2 t3
  rintro e V1 ⟨gf, lb, It, rfl, heg, hIt, hke, hit⟩
  conv => whnf
  go_upto_block 4 with fail
  have hse := hke.size
  have hs0 := heap_lt HA0.out
  have hkD2 := hkD
  have hD1I : ∀ b, It b → kx < b ∧ b < V1.heap.size := fun b hb => by have := hIt b hb; omega
  have HKE := Lib.hid hke
  have HEG := Lib.hid heg
  have HIT := Lib.hid hit
  have HIt := Lib.hid hD1I
  have HA1 := Lib.hid (hke.heap HA0.out)
  have HR1 := Lib.hid (HR.out.next hke)
  have hkl : kx < V1.heap.size := by omega
  have hkI : ¬ It kx := fun h => by have := hD1I kx h; omega
  clear hIt hke heg hit hD1I
  refine wp_cutM (fun D1 W => D1 = V1.heap.size ∧ W.heap[D1]? = some (.deferred (some [])) ∧ BKI (CP pb ob D0 Ds D1) pb ((r + 1) * 125952) (2 * (r + 1)) (2 * (r + 1)) W ∧ Keeps (CP pb ob D0 Ds D1) V1 W) ?rest ?first
  case rest =>
    rintro D1 W ⟨rfl, hD1, hbk, hk1⟩
    have HD1 := Lib.hid hD1
    have HBK1 := Lib.hid hbk
    have HK1 := Lib.hid hk1
    clear hD1 hbk hk1
    go_upto_region 37 with fail
    have hr1 := HR1.out
    have l1 := hr1.l1
    have l2 := hr1.l2
    refine freshD (w := w) (D1 := V1.heap.size) hK (hr1.byC HK1.out) HBK1.out ((HKP.out.trans' HKE.out (fun _ h => h.elim)).trans' HK1.out (fun b hb hl => ?_)) hnd ⟨by omega, HD1.out⟩ HOP.out hab ((HKW.out.trans HKE.out).trans' HK1.out (fun b hb hl => ?_)) hr hx hu _ _ _ _ _ _ _ _ _ _ _ _ _ _ _ _ _ _ _ _ _ _ _ _ _ _ _ _ _ _ _ _ _ _ _ _ _ _ _ _ _ _ _ _ _ _ _ _ _ _ _ _ _ _ _ _ _ _ _ _ _ _ _ _ _ _ _ _ _ _ _ _ _ _ _ _ _ _ _ _ _ _ _ _ _ _ _ _ _ _ _ _ _ _ _ _ _ _ _ _ _ _ _ _ _ _ _ _ _ _ _ _ _ _ _ _ _ _ _ _ _ _ _ _ _ _ _ _ _ _ _ _ _ _ _ _ _ _ _ _ _ _ _ _ _ _ _ _ _ _ _ _ _ _ _ _ _ _ _ _ _ _ _ _ _ _ _ _ _ _ _ _ _ _ _ _ _ _ _ _ _ _ _ _ _ _ _ _ _ _ _ _ _ _ _ _ _ _ _ _ _ _ _ _ _ _ _ _ _ _ _ _ _ _ _ _ _ _ _ (by assumption)
    · rcases hb.1 with h | h
      · exact ⟨h.1, h.2.1⟩
      · exact ⟨by omega, by omega⟩
    · rcases hb.1 with h | h
      · have := h.1; omega
      · omega
  case first =>
    intro J K' hJ hK'
    have HBK0 : Hid (BKI (fun b => CP pb ob D0 Ds V1.heap.size b ∧ b ≠ kx ∧ b < V1.heap.size ∧ ¬ It b) pb (r * 125952 + 3072) (2 * (r + 1)) (2 * (r + 1)) V1) := Lib.hid ((HBK.out.more (fun b hb hl => ⟨⟨hb.1.1, by omega⟩, by omega, by omega, fun h => by have := (HIt.out b h).1; omega⟩) (Nat.le_refl _) (Nat.le_refl _) (Nat.le_refl _)).next HKE.out)
    go_wp2_with fail
    refine (wpIn_wide (n := 1 + 2)).1 (range_law 1 (gf := gf) (lb := lb) (by rfl) HEG.out HIT.out (Keeps.refl _ _) (fun b hb => (HIt.out b hb).2) (fun j vs Y W h => by obtain ⟨p, x, pv, cp, cl, cc, bs, _, rfl, _⟩ := h; rfl)
      (fun j B W => GJ It V1 kx V1.heap.size pb ob D0 Ds (r * 125952 + 3072) (2 * (r + 1)) (2 * (r + 1)) j B W ∧ j < 40) (fun c B W => c = .exit 4 ∧ GJ It V1 kx V1.heap.size pb ob D0 Ds (r * 125952 + 3072) (2 * (r + 1)) (2 * (r + 1)) 40 B W)
      (fun j B W W' h hk => ⟨h.1.stab hkl hkI (fun b hb => ?_) hk, h.2⟩) (fun c B W W' h hk => ⟨h.1, h.2.stab hkl hkI (fun b hb => ?_) hk⟩) (fun b => b < V1.heap.size ∧ ¬ It b) (fun b hb => hb)
      ⟨⟨fun b h1 h2 => ⟨h1, h2⟩, HBK0.out.more (fun b hb _ => ⟨hb.1, hb.2.1, hb.2.2⟩) (by omega) (Nat.le_refl _) (Nat.le_refl _), Keeps.refl _ _, HA1.out⟩, by omega⟩ ?round ?done ?stop)
    · exact ⟨.inr (by have := HIt.out b hb; omega), by have := HIt.out b hb; omega⟩
    · exact ⟨.inr (by have := HIt.out b hb; omega), by have := HIt.out b hb; omega⟩
    case done =>
      rintro B W ⟨hG, hj⟩ hD hkI2 hBne
      go_wp2_with fail
      refine Met.intro ?_
      exact hJ _ _ ⟨rfl, hD, hG.bk.more (fun b hb _ => hb.1) (by omega) (Nat.le_refl _) (Nat.le_refl _), hG.keeps⟩
    case stop =>
      rintro c B W ⟨rfl, hG⟩ hD hkI2 hBne
      refine wpIn_wide.2 ?_
      go_wp2_with fail
      refine Met.intro ?_
      exact hJ _ _ ⟨rfl, hD, hG.bk.more (fun b hb _ => hb.1) (by omega) (Nat.le_refl _) (Nat.le_refl _), hG.keeps⟩
    case round =>
      rintro j B2 Y vs W1 hj hBl ⟨hG, hj40⟩ ⟨p, y, pv, cp', cl', cc', bs', hL, rfl, hrow, hown, hsz, hYe, hndY⟩ hY hBD hlt
      obtain ⟨pp1, pc1, rfl, hints⟩ := hrow.ints hrow.le'
      gi_wp2
      obtain ⟨yb, hyb⟩ : ∃ yb, yb = W1.heap.size := ⟨_, rfl⟩
      obtain ⟨W7, hW7⟩ : ∃ W7, W7 = W1.alloc (.cells (four y.k y.n y.t cp' cl' cc') T) := ⟨_, rfl⟩
      have hka : Keeps (fun _ => False) W1 W7 := by rw [hW7]; exact (Keeps.refl _ W1).alloc _
      have hby : W7.heap[yb]? = some (.cells (four y.k y.n y.t cp' cl' cc') T (0, 0)) := by rw [hW7, hyb]; exact heap_alloc_new _ _
      rw [← hW7, ← hyb]
      refine ⟨hka.mono fun _ h _ => h.elim, fun W₂ hk2 => ?_⟩
      have hW2 : Keeps (fun b => b = V1.heap.size + 1) W1 W₂ := (hka.mono (S' := fun b => b = V1.heap.size + 1) fun _ h _ => h.elim).trans' hk2 (fun b hb _ => hb)
      have hs2 := hW2.size
      have hl2 := hk2.size
      have hybl := heap_lt hby
      have hby2 : W₂.heap[yb]? = some (.cells (four y.k y.n y.t cp' cl' cc') T (0, 0)) := (hk2.block _ hybl (by omega)).trans hby
      have hYl : ∀ b, (Value.slice pp1 p.length pc1).ownBlock = some b ∨ b ∈ bs' → (¬ B2 b ∧ V1.heap.size + 1 < b) ∧ b < W1.heap.size ∧ b ≠ V1.heap.size + 1 := fun b hb => by
        have := hY b (by rw [hYe]; exact hb)
        exact ⟨⟨this.1, this.2.1⟩, this.2.2, by omega⟩
      have hro2 : ∃ ys, W₂.ownsRow 0 3 1 (.slice pp1 p.length pc1) p.length ys := ⟨_, ownsRow_same hrow.own (fun b hb => by
        have hb : (Value.slice pp1 p.length pc1).ownBlock = some b := by simpa using hb
        exact hW2.block b (hrow.lt hb) (fun e => (hYl b (.inl hb)).2.2 e))⟩
      have hbsT : ∀ b ∈ bs', (Value.slice pp1 p.length pc1).ownBlock ≠ some b := fun b hb e => by
        obtain ⟨cur, hh⟩ := hown.shape b hb
        obtain ⟨cur', hh'⟩ := hrow.shape b e
        rw [hh] at hh'
        simp at hh'
      have HT2 := Lib.hid (hown.keeps hW2 (fun b hb => ⟨(hYl b (.inr hb)).2.1, (hYl b (.inr hb)).2.2⟩))
      obtain ⟨hpl, hyl⟩ := eachL_lite hL
      have HG := Lib.hid hG
      have HW2 := Lib.hid hW2
      have HB := Lib.hid hBl
      have HYL := Lib.hid hYl
      have HBY := Lib.hid hby2
      have HRO := Lib.hid hro2
      have HBT := Lib.hid hbsT
      have HYE := Lib.hid hYe
      have HYB := Lib.hid (show W1.heap.size ≤ yb ∧ yb < W₂.heap.size from ⟨by omega, heap_lt hby2⟩)
      have HSZ := Lib.hid hsz
      have HNY := Lib.hid hndY
      have HBD := Lib.hid hBD
      clear hG hW2 hBl hYl hby2 hro2 hbsT hYe hybl hby hka hk2 hW7 hyb hown hrow hints hY hL hsz hndY hBD
      gi_wp2_with fail
      gi_loopg [25] p.length (fun m i W => ∃ q : Nat, q + m = p.length ∧ i = .int .i64 q ∧ (∃ ys, W.ownsRow 0 3 1 (.slice pp1 p.length pc1) p.length ys) ∧ Keeps (fun b => (Value.slice pp1 p.length pc1).ownBlock = some b) W₂ W)
      case atStart => exact ⟨0, by omega, rfl, HRO.out, Keeps.refl _ _⟩
      case round =>
        obtain ⟨W3, hW3⟩ : ∃ X, X = wr := ⟨_, rfl⟩
        subst hW3
        obtain ⟨q, hqm, rfl, ⟨ys, hrow⟩, hk3⟩ := hrel
        have HQ := Lib.hid hqm
        have HROW := Lib.hid hrow
        have HK3 := Lib.hid hk3
        have hq0 : (0 : Int) ≤ (q : Int) := Int.natCast_nonneg _
        clear hqm hk3
        by_cases hlt3 : q < p.length
        · obtain ⟨pp', cap', he, _, _, hg⟩ := ownsRow_slice hrow
          simp only [Value.slice.injEq] at he
          obtain ⟨rfl, _, _⟩ := he
          obtain ⟨g, rfl⟩ := hg (by omega)
          obtain ⟨_, hce, hfz⟩ := ownsRow_anyCell hrow
          obtain ⟨v0, a0⟩ := hce q (by omega)
          have f0 := hfz q
          have hi1 : (q : Int) < (p.length : Int) := by omega
          clear hce hfz hrow hg
          gi_wp2_with fail
          gi_roundg (gk - 1)
          case measure => have := HQ.out; omega
          case rel => exact ⟨q + 1, by have := HQ.out; omega, by go_num, ⟨_, ownsRow_set HROW.out q hlt3 _⟩, HK3.out.setCell (p := ⟨g, q, none⟩) (fun _ => rfl) _⟩
        · have hpz : (p.length : Int) ≤ 1024 := by omega
          obtain ⟨i0, hi0, hz0, hz1, hz2⟩ := info_parts Try.intInfo
          have hrow1 := hrow
          have hVW : Hid (Keeps (CP pb ob D0 Ds V1.heap.size) V1 W3) := Lib.hid ((HG.out.keeps.trans' HW2.out (fun b hb hl => by omega)).trans' HK3.out (fun b hb hl => by have := HYL.out b (.inl hb); omega))
          have hfacts : Hid (∀ w3, (W3.alloc (.cells #[.int .i64 (-2)] 3)).grownBy w3 (Value.slice pp1 p.length pc1).ownBlock → (w3.cell? ⟨pb + 1, 0, none⟩ = some (.pointer (some ⟨pb, 0, none⟩)) ∧ w3.cell? ⟨yb, 0, none⟩ = some (.string y.k) ∧ w3.cell? ⟨yb, 1, none⟩ = some (.int .i64 y.n) ∧ w3.cell? ⟨yb, 2, none⟩ = some (.string y.t) ∧ w3.cell? ⟨yb, 3, none⟩ = some (.slice cp' cl' cc')) ∧ Own w3 y.c cp' cl' cc' bs' ∧ Keeps (fun b => (Value.slice pp1 p.length pc1).ownBlock = some b) W3 w3) := Lib.hid fun w3 hg => by
            have hk : Keeps (fun b => (Value.slice pp1 p.length pc1).ownBlock = some b) W3 w3 := ((Keeps.refl (fun b => (Value.slice pp1 p.length pc1).ownBlock = some b) W3).alloc _).grown hg (fun k hk _ => hk)
            have hkA : Keeps (fun b => (Value.slice pp1 p.length pc1).ownBlock = some b) W₂ w3 := HK3.out.trans hk
            have hcb := (hVW.out.trans' hk (fun b hb hl => by have := HYL.out b (.inl hb); omega)).block _ (heap_lt HR1.out.cb) (fun h => by
              rcases h.1 with h | h
              · exact h.2.1 rfl
              · have := HR1.out.l1; have := HR1.out.l2; omega)
            have hbx := (hkA.block _ (heap_lt HBY.out) (fun h => by have := HYL.out _ (.inl h); have := HYB.out; omega)).trans HBY.out
            obtain ⟨y0, y1, y2, y3, _⟩ := box4 hbx
            have hc : w3.cell? ⟨pb + 1, 0, none⟩ = some (.pointer (some ⟨pb, 0, none⟩)) := by simp [World.cell?, hcb.trans HR1.out.cb]
            refine ⟨⟨hc, y0, y1, y2, y3⟩, HT2.out.keeps hkA (fun b hb => ⟨?_, HBT.out b hb⟩), hk⟩
            have := (HYL.out b (.inr hb)).2.1; have := HW2.out.size; omega
          have hpl2 : p.length + 1 ≤ maxLen := by unfold maxLen; omega
          have hne : (((p.length : Int) + 1) == 0) = false := by simp; omega
          clear hrow
          gi_wp2_with (gi_at_builtin; refine wpListIn_append_lies _ rfl _ _ _ rfl 0 3 i0 _ 1 8 Try.underlying32 hi0 hz0 hz1 hz2 rfl (by decide) (.slice pp1 p.length pc1) p.length ys rfl (hrow1.alloc _) ⟨W3.heap.size, 0, none⟩ 1 1 [.int .i64 (-2)] rfl rfl (World.news_of_block (cs := #[.int .i64 (-2)]) (t := 3) (fr := (0, 0)) (heap_alloc_new W3 _)) (by simp [Value.oneCell']) (by omega) hpl2 (by omega) (by simp) (W3.heap.size + 1) (by simp) ?_; intro gg cap2 w3 hown3 hgrow3 hat3 hltg; have hq3 := hfacts.out w3 hgrow3; obtain ⟨⟨c0, y0, y1, y2, y3⟩, ho3, hkk3⟩ := hq3; have HO3 := Lib.hid ho3; have HKK3 := Lib.hid hkk3; clear hown3 hgrow3 hat3 ho3 hkk3)
          obtain ⟨W5, hW5⟩ : ∃ X, X = w3.alloc (.cells #[.string y.k, .int .i64 y.n, .string y.t, .slice cp' cl' cc'] T) := ⟨_, rfl⟩
          rw [← hW5]
          have hk5 : Keeps (fun _ => False) w3 W5 := by rw [hW5]; exact (Keeps.refl _ _).alloc _
          have hv5 : W5.heap[w3.heap.size]? = some (.cells (four y.k y.n y.t cp' cl' cc') T (0, 0)) := by rw [hW5]; exact heap_alloc_new _ _
          have hk25 : Keeps (fun b => (Value.slice pp1 p.length pc1).ownBlock = some b) W₂ W5 := (HK3.out.trans HKK3.out).trans' hk5 (fun _ h => h.elim)
          have hs2 := HW2.out.size
          have hs5 := hk25.size
          have hgs := HG.out.keeps.size
          have hb5 : BKI (fun b => CP pb ob D0 Ds V1.heap.size b ∧ b ≠ kx ∧ B2 b) pb (r * 125952 + 3072 + 3072 * j) (2 * (r + 1)) (2 * (r + 1)) W5 := (HG.out.bk.keeps HW2.out (fun b hb h => (HBD.out b h.2.2).2 hb)).keeps hk25 (fun b hb h => (HYL.out b (.inl hb)).1.1 h.2.2)
          have hr1 := HR1.out
          have l1 := hr1.l1
          have l2 := hr1.l2
          have hz := hb5.take1 (vb := w3.heap.size) (by omega) (HO3.out.keeps hk5 (fun b hb => ⟨by have := (HYL.out b (.inr hb)).2.1; have := HK3.out.size; have := HKK3.out.size; omega, fun h => h⟩)) HSZ.out HNY.out (fun b hb => ⟨by have := (HYL.out b (.inr hb)).1.2; omega, fun h => (HYL.out b (.inr hb)).1.1 h.2.2⟩) (by omega) hv5
          have hat5 : W5.heap[kx]? = some (.cells #[.int .i64 (j : Int)] 3 (0, 0)) := ((hk25.block _ (Nat.lt_of_lt_of_le (heap_lt HG.out.at_) hs2) (fun h => by have := HYL.out _ (.inl h); omega)).trans (HW2.out.block _ (heap_lt HG.out.at_) (by omega))).trans HG.out.at_
          have HK25 := Lib.hid hk25
          have HAT5 := Lib.hid hat5
          have HS5 : Hid (W1.heap.size ≤ W5.heap.size ∧ V1.heap.size ≤ W1.heap.size) := Lib.hid ⟨by omega, by omega⟩
          clear hW5 hk5 hv5 hk25 hb5 hat5 c0 y0 y1 y2 y3 hr1 l1 l2
          refine ⟨trivial, (CallsIn.inRound _ (callsIn_wide.2 hz)).mono ?_⟩
          clear hz
          rintro e W6 ⟨⟨vv, rfl⟩, hb6, hk6⟩
          conv => whnf
          have hat6 : W6.heap[kx]? = some (.cells #[.int .i64 (j : Int)] 3 (0, 0)) := (hk6.block _ (heap_lt HAT5.out) (fun h => by
            rcases h with h | h
            · exact h.2.1 rfl
            · have := HYL.out _ (.inr h); omega)).trans HAT5.out
          have a0 : W6.cell? ⟨kx, 0, none⟩ = some (.int .i64 (j : Int)) := by simp [World.cell?, hat6]
          have a1 : W6.frozen? ⟨kx, 0, none⟩ = false := by simp [World.frozen?, hat6]
          have hend : Hid (∃ B' : Nat → Prop, (∀ b, B' b → (B2 b ∨ Y b ∨ W1.heap.size ≤ b) ∧ b < (W6.setCell ⟨kx, 0, none⟩ (.int .i64 ((j : Int) + 1))).heap.size) ∧ Keeps (fun b => B2 b ∨ Y b) W₂ (W6.setCell ⟨kx, 0, none⟩ (.int .i64 ((j : Int) + 1))) ∧ GJ It V1 kx V1.heap.size pb ob D0 Ds (r * 125952 + 3072) (2 * (r + 1)) (2 * (r + 1)) (j + 1) B' (W6.setCell ⟨kx, 0, none⟩ (.int .i64 ((j : Int) + 1)))) := by
            have hse := (Keeps.refl (fun b => b = kx) W6).setCell (p := ⟨kx, 0, none⟩) (fun _ => rfl) (.int .i64 ((j : Int) + 1))
            have hs6 := hk6.size
            have hss := hse.size
            have h5 := HS5.out
            have hkY : ∀ b, Y b → (Value.slice pp1 p.length pc1).ownBlock = some b ∨ b ∈ bs' := fun b hb => by rw [HYE.out] at hb; exact hb
            have hYk : ∀ b, (Value.slice pp1 p.length pc1).ownBlock = some b ∨ b ∈ bs' → Y b := fun b hb => by rw [HYE.out]; exact hb
            have hr1 := HR1.out
            have l1 := hr1.l1
            have l2 := hr1.l2
            refine ⟨fun b => (B2 b ∨ Y b ∨ W1.heap.size ≤ b) ∧ b < (W6.setCell ⟨kx, 0, none⟩ (.int .i64 ((j : Int) + 1))).heap.size, fun b hb => hb, ?_, ?_, ?_, ?_, ?_⟩
            · exact ((HK25.out.mono (S' := fun b => B2 b ∨ Y b) (fun b hb _ => .inr (hYk b (.inl hb)))).trans' hk6 (fun b hb _ => hb.elim (fun h => .inl h.2.2) (fun h => .inr (hYk b (.inr h))))).trans' hse (fun b hb _ => .inl (hb ▸ HG.out.own kx hkl hkI))
            · exact fun b h1 h2 => ⟨.inl (HG.out.own b h1 h2), by omega⟩
            · refine (hb6.keeps hse (fun b hb h => ?_)).more (fun b hb hl => ?_) (by omega) (Nat.le_refl _) (Nat.le_refl _)
              · rcases h with h | h | h
                · exact h.2.1 hb
                · have := HYL.out _ (.inr h); omega
                · omega
              · rcases hb with h | h | h
                · exact ⟨h.1, h.2.1, .inl h.2.2, hl⟩
                · have := HYL.out _ (.inr h)
                  exact ⟨⟨.inr (by omega), by omega⟩, by omega, .inr (.inl (hYk b (.inr h))), hl⟩
                · exact ⟨⟨.inr (by omega), by omega⟩, by omega, .inr (.inr (by omega)), hl⟩
            · refine (((HG.out.keeps.trans' HW2.out (fun b hb hl => by omega)).trans' HK25.out (fun b hb hl => by have := HYL.out b (.inl hb); omega)).trans' hk6 (fun b hb hl => ?_)).trans' hse (fun b hb hl => ⟨.inr (by omega), by omega⟩)
              rcases hb with h | h
              · exact h.1
              · have := HYL.out _ (.inr h); omega
            · rw [heap_set hat6]; rfl
          have hjz : (j : Int) < 40 := by omega
          have hjz0 : (0 : Int) ≤ (j : Int) := Int.natCast_nonneg _
          clear hat6 hb6 hk6
          by_cases hj41 : (j : Int) + 1 = 40
          · have hsq : ((j : Int) + 1 == 40) = true := by simp [hj41]
            gi_wp2_with fail
            obtain ⟨B', e1, e2, e3⟩ := hend.out
            obtain rfl : j = 39 := by omega
            exact ⟨B', e1, e2, rfl, e3⟩
          · have hsq : ((j : Int) + 1 == 40) = false := by simp [hj41]
            gi_wp2_with fail
            obtain ⟨B', e1, e2, e3⟩ := hend.out
            exact ⟨B', e1, e2, e3, by omega⟩
end Go.Proofs.Ytnphhibfiklfjaa
