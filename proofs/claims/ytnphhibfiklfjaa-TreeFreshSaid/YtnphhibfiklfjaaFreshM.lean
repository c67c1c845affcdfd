/-
  espalierlaw4.TreeFresh: its walk.
-/
import Derived.Test.YtnphhibfiklfjaaFreshB

import Derived.Test.YtnphhibfiklfjaaBegun

import Derived.Deep.RegionHeld3

import Derived.BigQuiet

set_option linter.unusedVariables false

set_option linter.unusedSimpArgs false

namespace Go.Proofs.Ytnphhibfiklfjaa

open Go.RowKit Go.Shelf

attribute [local go_sem] Oper.semAt_some

set_option maxRecDepth 1000000 in
set_option maxHeartbeats 12800000 in
theorem treeFresh_any (sp : Option Addr) (sl sc : Nat) (w : World) (h : Ops w sp sl) (hsl : sl ≤ sc) (hsc : sc ≤ 9223372036854775807) :
    Calls Try.prog 7 #[.slice sp sl sc] w fun e w' => e = .returned (.bool true) ∧ Keeps (fun _ => False) w w' := by
  have hbg := begun_any (w.alloc (.cells #[.bool false] 4))
  have HH := Lib.hid h
  have hr0 : Hid ((w.alloc (.cells #[.bool false] 4)).heap[w.heap.size]? = some (.cells #[.bool false] 4 (0, 0)) ∧ Keeps (fun _ => False) w (w.alloc (.cells #[.bool false] 4))) := Lib.hid ⟨heap_alloc_new _ _, (Keeps.refl _ _).alloc _⟩
  clear h
  refine calls_marks Try.func7 rfl ?_
  simp only [Try.ntmps7, List.size_toArray, List.length_cons, List.length_nil, Nat.reduceAdd, Nat.reduceSub, Array.replicate_succ, Array.replicate_zero, List.push_toArray, List.append_toArray, List.nil_append, List.cons_append]
  go_upto_region 1 with fail
  go_wp2_with fail
  refine hbg.mono ?_
  clear hbg
  rintro e w1 ⟨rfl, hk1⟩
  obtain ⟨pb, hpb⟩ : ∃ p, p = w1.heap.size := ⟨_, rfl⟩
  obtain ⟨W0, hW0⟩ : ∃ X, X = ((w1.alloc (.cells #[.slice none 0 0, .slice none 0 0, .int .i64 0, .slice none 0 0] T4)).alloc (.cells #[.pointer (some ⟨pb, 0, none⟩)] 60)).alloc (.cells #[.slice none 0 0, .int .i64 0] TK) := ⟨_, rfl⟩
  have hs0 : W0.heap.size = pb + 3 := by rw [hW0, hpb]; simp
  have hk10 : Keeps (fun _ => False) w1 W0 := by rw [hW0]; exact (((Keeps.refl _ _).alloc _).alloc _).alloc _
  have hB0 : W0.heap[pb]? = some (.cells #[.slice none 0 0, .slice none 0 0, .int .i64 0, .slice none 0 0] T4 (0, 0)) := by
    rw [hW0, hpb]
    exact (((Keeps.refl (fun _ => False) _).alloc _).alloc _).heap (heap_alloc_new _ _)
  have hC0 : W0.heap[pb + 1]? = some (.cells #[.pointer (some ⟨pb, 0, none⟩)] 60 (0, 0)) := by
    rw [hW0, hpb]
    have := heap_alloc_new (w1.alloc (.cells #[.slice none 0 0, .slice none 0 0, .int .i64 0, .slice none 0 0] T4)) (.cells #[.pointer (some ⟨w1.heap.size, 0, none⟩)] 60)
    rw [World.size_alloc] at this
    exact ((Keeps.refl (fun _ => False) _).alloc _).heap this
  have hK0 : W0.heap[pb + 2]? = some (.cells #[.slice none 0 0, .int .i64 0] TK (0, 0)) := by
    rw [hW0, hpb]
    have := heap_alloc_new ((w1.alloc (.cells #[.slice none 0 0, .slice none 0 0, .int .i64 0, .slice none 0 0] T4)).alloc (.cells #[.pointer (some ⟨w1.heap.size, 0, none⟩)] 60)) (.cells #[.slice none 0 0, .int .i64 0] TK)
    simpa using this
  have hI0 : FI W0 pb 0 [] W0 := by
    refine ⟨⟨_, FB.start hB0 hK0, fun b hb => ?_⟩, Keeps.refl _ _, List.nodup_nil, fun _ h => by simp at h⟩
    rcases hb with rfl | rfl
    · exact ⟨Nat.le_refl _, by omega, by simp⟩
    · exact ⟨by omega, by omega, by simp⟩
  have hlow : Hid (w.heap.size < pb ∧ Keeps (fun _ => False) w W0 ∧ W0.heap[w.heap.size]? = some (.cells #[.bool false] 4 (0, 0))) := Lib.hid ⟨by have h1 := heap_lt hr0.out.1; have h2 := hk1.size; omega, (hr0.out.2.trans hk1).trans hk10, (hk1.trans hk10).heap hr0.out.1⟩
  have HFI := Lib.hid hI0
  have HC0 := Lib.hid hC0
  have HS0 := Lib.hid hs0
  have HW0 := Lib.hid hW0
  have HPB := Lib.hid hpb
  clear hI0 hC0 hs0 hW0 hpb hB0 hK0 hk10 hk1 hr0
  go_upto_region 5 with fail
  rw [← HPB.out, ← HW0.out]
  go_wp2_with fail
  refine wp_loop_ghost_k (fun m a W => ∃ (ds : List Deferred) (u5 u6 u7 u8 u9 u10 u11 u12 u13 u14 u15 u16 u17 u18 u19 u20 u21 u22 u23 u24 u25 u26 u27 u28 u29 u30 u31 u32 u33 u40 u41 u42 u43 u44 u45 u46 u47 u48 u49 u50 u51 u52 u53 u54 u55 u56 u57 u58 u59 u60 u61 u62 u63 u64 u65 u66 u67 u68 u69 u70 u71 u72 u73 u74 u75 u76 u77 u78 u79 u80 u81 u82 u83 u84 u85 u86 u87 u88 u89 u90 u91 u92 u93 u94 u95 u96 u97 u98 u99 u100 u101 u102 u103 u104 u105 u106 u107 u108 u109 u110 u111 u112 u113 u114 u115 u116 u117 u118 u119 u120 u121 u122 u123 u124 u125 u126 u127 u128 u129 u130 u131 u132 u133 u134 u135 u136 u137 u138 u139 u140 u141 u142 u143 u144 u145 u146 u147 u148 u149 u150 u151 u152 u153 u154 u155 u156 u157 u158 u159 u160 u161 u162 u163 u164 u165 u166 u167 u168 u169 u170 u171 u172 u173 u174 u175 u176 u177 u178 u179 u180 u181 u182 u183 u184 u185 u186 u187 u188 u189 u190 u191 u192 u193 u194 u195 u196 u197 u198 u199 u200 u201 u202 u203 u204 u205 u206 u207 u208 u209 u210 u211 u212 u213 u214 u215 u216 u217 u218 u219 u220 u221 u222 u223 u224 u225 u226 u227 u228 u229 u230 u231 u232 u233 : Value), (∃ (r : Nat) (Ds : List Nat), r + m = 20 ∧ u5 = .int .i64 r ∧ ds = Ds.map markOf ∧ FI W0 pb r Ds W) ∧ a = { tmps := List.toArray ((.slice sp sl sc) :: undef :: (.pointer (some ⟨w.heap.size, 0, none⟩)) :: (.pointer (some ⟨pb + 1, 0, none⟩)) :: (.pointer (some ⟨pb + 1 + 1, 0, none⟩)) :: u5 :: u6 :: u7 :: u8 :: u9 :: u10 :: u11 :: u12 :: u13 :: u14 :: u15 :: u16 :: u17 :: u18 :: u19 :: u20 :: u21 :: u22 :: u23 :: u24 :: u25 :: u26 :: u27 :: u28 :: u29 :: u30 :: u31 :: u32 :: u33 :: (.bool true) :: (.bool false) :: (.agg #[.slice none 0 0, .slice none 0 0, .int .i64 0, .slice none 0 0]) :: (.pointer (some ⟨pb, 0, none⟩)) :: (.agg #[.slice none 0 0, .int .i64 0]) :: (.pointer (some ⟨pb + 1 + 1, 0, none⟩)) :: u40 :: u41 :: u42 :: u43 :: u44 :: u45 :: u46 :: u47 :: u48 :: u49 :: u50 :: u51 :: u52 :: u53 :: u54 :: u55 :: u56 :: u57 :: u58 :: u59 :: u60 :: u61 :: u62 :: u63 :: u64 :: u65 :: u66 :: u67 :: u68 :: u69 :: u70 :: u71 :: u72 :: u73 :: u74 :: u75 :: u76 :: u77 :: u78 :: u79 :: u80 :: u81 :: u82 :: u83 :: u84 :: u85 :: u86 :: u87 :: u88 :: u89 :: u90 :: u91 :: u92 :: u93 :: u94 :: u95 :: u96 :: u97 :: u98 :: u99 :: u100 :: u101 :: u102 :: u103 :: u104 :: u105 :: u106 :: u107 :: u108 :: u109 :: u110 :: u111 :: u112 :: u113 :: u114 :: u115 :: u116 :: u117 :: u118 :: u119 :: u120 :: u121 :: u122 :: u123 :: u124 :: u125 :: u126 :: u127 :: u128 :: u129 :: u130 :: u131 :: u132 :: u133 :: u134 :: u135 :: u136 :: u137 :: u138 :: u139 :: u140 :: u141 :: u142 :: u143 :: u144 :: u145 :: u146 :: u147 :: u148 :: u149 :: u150 :: u151 :: u152 :: u153 :: u154 :: u155 :: u156 :: u157 :: u158 :: u159 :: u160 :: u161 :: u162 :: u163 :: u164 :: u165 :: u166 :: u167 :: u168 :: u169 :: u170 :: u171 :: u172 :: u173 :: u174 :: u175 :: u176 :: u177 :: u178 :: u179 :: u180 :: u181 :: u182 :: u183 :: u184 :: u185 :: u186 :: u187 :: u188 :: u189 :: u190 :: u191 :: u192 :: u193 :: u194 :: u195 :: u196 :: u197 :: u198 :: u199 :: u200 :: u201 :: u202 :: u203 :: u204 :: u205 :: u206 :: u207 :: u208 :: u209 :: u210 :: u211 :: u212 :: u213 :: u214 :: u215 :: u216 :: u217 :: u218 :: u219 :: u220 :: u221 :: u222 :: u223 :: u224 :: u225 :: u226 :: u227 :: u228 :: u229 :: u230 :: u231 :: u232 :: u233 :: undef :: undef :: undef :: undef :: undef :: undef :: []), defers := ds }) 20 ?_ ?_
  · (repeat apply Exists.intro)
    refine ⟨?_, rfl⟩
    exact ⟨0, [], rfl, rfl, rfl, HFI.out⟩
  intro gk a W hinv J K hJ hKK
  obtain ⟨ds, hinv⟩ := hinv
  obtain ⟨u5, hinv⟩ := hinv
  obtain ⟨u6, hinv⟩ := hinv
  obtain ⟨u7, hinv⟩ := hinv
  obtain ⟨u8, hinv⟩ := hinv
  obtain ⟨u9, hinv⟩ := hinv
  obtain ⟨u10, hinv⟩ := hinv
  obtain ⟨u11, hinv⟩ := hinv
  obtain ⟨u12, hinv⟩ := hinv
  obtain ⟨u13, hinv⟩ := hinv
  obtain ⟨u14, hinv⟩ := hinv
  obtain ⟨u15, hinv⟩ := hinv
  obtain ⟨u16, hinv⟩ := hinv
  obtain ⟨u17, hinv⟩ := hinv
  obtain ⟨u18, hinv⟩ := hinv
  obtain ⟨u19, hinv⟩ := hinv
  obtain ⟨u20, hinv⟩ := hinv
  obtain ⟨u21, hinv⟩ := hinv
  obtain ⟨u22, hinv⟩ := hinv
  obtain ⟨u23, hinv⟩ := hinv
  obtain ⟨u24, hinv⟩ := hinv
  obtain ⟨u25, hinv⟩ := hinv
  obtain ⟨u26, hinv⟩ := hinv
  obtain ⟨u27, hinv⟩ := hinv
  obtain ⟨u28, hinv⟩ := hinv
  obtain ⟨u29, hinv⟩ := hinv
  obtain ⟨u30, hinv⟩ := hinv
  obtain ⟨u31, hinv⟩ := hinv
  obtain ⟨u32, hinv⟩ := hinv
  obtain ⟨u33, hinv⟩ := hinv
  obtain ⟨u40, hinv⟩ := hinv
  obtain ⟨u41, hinv⟩ := hinv
  obtain ⟨u42, hinv⟩ := hinv
  obtain ⟨u43, hinv⟩ := hinv
  obtain ⟨u44, hinv⟩ := hinv
  obtain ⟨u45, hinv⟩ := hinv
  obtain ⟨u46, hinv⟩ := hinv
  obtain ⟨u47, hinv⟩ := hinv
  obtain ⟨u48, hinv⟩ := hinv
  obtain ⟨u49, hinv⟩ := hinv
  obtain ⟨u50, hinv⟩ := hinv
  obtain ⟨u51, hinv⟩ := hinv
  obtain ⟨u52, hinv⟩ := hinv
  obtain ⟨u53, hinv⟩ := hinv
  obtain ⟨u54, hinv⟩ := hinv
  obtain ⟨u55, hinv⟩ := hinv
  obtain ⟨u56, hinv⟩ := hinv
  obtain ⟨u57, hinv⟩ := hinv
  obtain ⟨u58, hinv⟩ := hinv
  obtain ⟨u59, hinv⟩ := hinv
  obtain ⟨u60, hinv⟩ := hinv
  obtain ⟨u61, hinv⟩ := hinv
  obtain ⟨u62, hinv⟩ := hinv
  obtain ⟨u63, hinv⟩ := hinv
  obtain ⟨u64, hinv⟩ := hinv
  obtain ⟨u65, hinv⟩ := hinv
  obtain ⟨u66, hinv⟩ := hinv
  obtain ⟨u67, hinv⟩ := hinv
  obtain ⟨u68, hinv⟩ := hinv
  obtain ⟨u69, hinv⟩ := hinv
  obtain ⟨u70, hinv⟩ := hinv
  obtain ⟨u71, hinv⟩ := hinv
  obtain ⟨u72, hinv⟩ := hinv
  obtain ⟨u73, hinv⟩ := hinv
  obtain ⟨u74, hinv⟩ := hinv
  obtain ⟨u75, hinv⟩ := hinv
  obtain ⟨u76, hinv⟩ := hinv
  obtain ⟨u77, hinv⟩ := hinv
  obtain ⟨u78, hinv⟩ := hinv
  obtain ⟨u79, hinv⟩ := hinv
  obtain ⟨u80, hinv⟩ := hinv
  obtain ⟨u81, hinv⟩ := hinv
  obtain ⟨u82, hinv⟩ := hinv
  obtain ⟨u83, hinv⟩ := hinv
  obtain ⟨u84, hinv⟩ := hinv
  obtain ⟨u85, hinv⟩ := hinv
  obtain ⟨u86, hinv⟩ := hinv
  obtain ⟨u87, hinv⟩ := hinv
  obtain ⟨u88, hinv⟩ := hinv
  obtain ⟨u89, hinv⟩ := hinv
  obtain ⟨u90, hinv⟩ := hinv
  obtain ⟨u91, hinv⟩ := hinv
  obtain ⟨u92, hinv⟩ := hinv
  obtain ⟨u93, hinv⟩ := hinv
  obtain ⟨u94, hinv⟩ := hinv
  obtain ⟨u95, hinv⟩ := hinv
  obtain ⟨u96, hinv⟩ := hinv
  obtain ⟨u97, hinv⟩ := hinv
  obtain ⟨u98, hinv⟩ := hinv
  obtain ⟨u99, hinv⟩ := hinv
  obtain ⟨u100, hinv⟩ := hinv
  obtain ⟨u101, hinv⟩ := hinv
  obtain ⟨u102, hinv⟩ := hinv
  obtain ⟨u103, hinv⟩ := hinv
  obtain ⟨u104, hinv⟩ := hinv
  obtain ⟨u105, hinv⟩ := hinv
  obtain ⟨u106, hinv⟩ := hinv
  obtain ⟨u107, hinv⟩ := hinv
  obtain ⟨u108, hinv⟩ := hinv
  obtain ⟨u109, hinv⟩ := hinv
  obtain ⟨u110, hinv⟩ := hinv
  obtain ⟨u111, hinv⟩ := hinv
  obtain ⟨u112, hinv⟩ := hinv
  obtain ⟨u113, hinv⟩ := hinv
  obtain ⟨u114, hinv⟩ := hinv
  obtain ⟨u115, hinv⟩ := hinv
  obtain ⟨u116, hinv⟩ := hinv
  obtain ⟨u117, hinv⟩ := hinv
  obtain ⟨u118, hinv⟩ := hinv
  obtain ⟨u119, hinv⟩ := hinv
  obtain ⟨u120, hinv⟩ := hinv
  obtain ⟨u121, hinv⟩ := hinv
  obtain ⟨u122, hinv⟩ := hinv
  obtain ⟨u123, hinv⟩ := hinv
  obtain ⟨u124, hinv⟩ := hinv
  obtain ⟨u125, hinv⟩ := hinv
  obtain ⟨u126, hinv⟩ := hinv
  obtain ⟨u127, hinv⟩ := hinv
  obtain ⟨u128, hinv⟩ := hinv
  obtain ⟨u129, hinv⟩ := hinv
  obtain ⟨u130, hinv⟩ := hinv
  obtain ⟨u131, hinv⟩ := hinv
  obtain ⟨u132, hinv⟩ := hinv
  obtain ⟨u133, hinv⟩ := hinv
  obtain ⟨u134, hinv⟩ := hinv
  obtain ⟨u135, hinv⟩ := hinv
  obtain ⟨u136, hinv⟩ := hinv
  obtain ⟨u137, hinv⟩ := hinv
  obtain ⟨u138, hinv⟩ := hinv
  obtain ⟨u139, hinv⟩ := hinv
  obtain ⟨u140, hinv⟩ := hinv
  obtain ⟨u141, hinv⟩ := hinv
  obtain ⟨u142, hinv⟩ := hinv
  obtain ⟨u143, hinv⟩ := hinv
  obtain ⟨u144, hinv⟩ := hinv
  obtain ⟨u145, hinv⟩ := hinv
  obtain ⟨u146, hinv⟩ := hinv
  obtain ⟨u147, hinv⟩ := hinv
  obtain ⟨u148, hinv⟩ := hinv
  obtain ⟨u149, hinv⟩ := hinv
  obtain ⟨u150, hinv⟩ := hinv
  obtain ⟨u151, hinv⟩ := hinv
  obtain ⟨u152, hinv⟩ := hinv
  obtain ⟨u153, hinv⟩ := hinv
  obtain ⟨u154, hinv⟩ := hinv
  obtain ⟨u155, hinv⟩ := hinv
  obtain ⟨u156, hinv⟩ := hinv
  obtain ⟨u157, hinv⟩ := hinv
  obtain ⟨u158, hinv⟩ := hinv
  obtain ⟨u159, hinv⟩ := hinv
  obtain ⟨u160, hinv⟩ := hinv
  obtain ⟨u161, hinv⟩ := hinv
  obtain ⟨u162, hinv⟩ := hinv
  obtain ⟨u163, hinv⟩ := hinv
  obtain ⟨u164, hinv⟩ := hinv
  obtain ⟨u165, hinv⟩ := hinv
  obtain ⟨u166, hinv⟩ := hinv
  obtain ⟨u167, hinv⟩ := hinv
  obtain ⟨u168, hinv⟩ := hinv
  obtain ⟨u169, hinv⟩ := hinv
  obtain ⟨u170, hinv⟩ := hinv
  obtain ⟨u171, hinv⟩ := hinv
  obtain ⟨u172, hinv⟩ := hinv
  obtain ⟨u173, hinv⟩ := hinv
  obtain ⟨u174, hinv⟩ := hinv
  obtain ⟨u175, hinv⟩ := hinv
  obtain ⟨u176, hinv⟩ := hinv
  obtain ⟨u177, hinv⟩ := hinv
  obtain ⟨u178, hinv⟩ := hinv
  obtain ⟨u179, hinv⟩ := hinv
  obtain ⟨u180, hinv⟩ := hinv
  obtain ⟨u181, hinv⟩ := hinv
  obtain ⟨u182, hinv⟩ := hinv
  obtain ⟨u183, hinv⟩ := hinv
  obtain ⟨u184, hinv⟩ := hinv
  obtain ⟨u185, hinv⟩ := hinv
  obtain ⟨u186, hinv⟩ := hinv
  obtain ⟨u187, hinv⟩ := hinv
  obtain ⟨u188, hinv⟩ := hinv
  obtain ⟨u189, hinv⟩ := hinv
  obtain ⟨u190, hinv⟩ := hinv
  obtain ⟨u191, hinv⟩ := hinv
  obtain ⟨u192, hinv⟩ := hinv
  obtain ⟨u193, hinv⟩ := hinv
  obtain ⟨u194, hinv⟩ := hinv
  obtain ⟨u195, hinv⟩ := hinv
  obtain ⟨u196, hinv⟩ := hinv
  obtain ⟨u197, hinv⟩ := hinv
  obtain ⟨u198, hinv⟩ := hinv
  obtain ⟨u199, hinv⟩ := hinv
  obtain ⟨u200, hinv⟩ := hinv
  obtain ⟨u201, hinv⟩ := hinv
  obtain ⟨u202, hinv⟩ := hinv
  obtain ⟨u203, hinv⟩ := hinv
  obtain ⟨u204, hinv⟩ := hinv
  obtain ⟨u205, hinv⟩ := hinv
  obtain ⟨u206, hinv⟩ := hinv
  obtain ⟨u207, hinv⟩ := hinv
  obtain ⟨u208, hinv⟩ := hinv
  obtain ⟨u209, hinv⟩ := hinv
  obtain ⟨u210, hinv⟩ := hinv
  obtain ⟨u211, hinv⟩ := hinv
  obtain ⟨u212, hinv⟩ := hinv
  obtain ⟨u213, hinv⟩ := hinv
  obtain ⟨u214, hinv⟩ := hinv
  obtain ⟨u215, hinv⟩ := hinv
  obtain ⟨u216, hinv⟩ := hinv
  obtain ⟨u217, hinv⟩ := hinv
  obtain ⟨u218, hinv⟩ := hinv
  obtain ⟨u219, hinv⟩ := hinv
  obtain ⟨u220, hinv⟩ := hinv
  obtain ⟨u221, hinv⟩ := hinv
  obtain ⟨u222, hinv⟩ := hinv
  obtain ⟨u223, hinv⟩ := hinv
  obtain ⟨u224, hinv⟩ := hinv
  obtain ⟨u225, hinv⟩ := hinv
  obtain ⟨u226, hinv⟩ := hinv
  obtain ⟨u227, hinv⟩ := hinv
  obtain ⟨u228, hinv⟩ := hinv
  obtain ⟨u229, hinv⟩ := hinv
  obtain ⟨u230, hinv⟩ := hinv
  obtain ⟨u231, hinv⟩ := hinv
  obtain ⟨u232, hinv⟩ := hinv
  obtain ⟨u233, hinv⟩ := hinv
  obtain ⟨⟨r, Ds, hrm, hr5, hds, hI⟩, ha⟩ := hinv
  subst ha
  subst hr5
  subst hds
  have HI := Lib.hid hI
  have HRM := Lib.hid hrm
  have hr20 : r ≤ 20 := by omega
  have hrz : (0 : Int) ≤ (r : Int) := Int.natCast_nonneg _
  clear hI hrm HFI HW0 HPB
  obtain ⟨go, hgo⟩ : ∃ b, decide (r < sl ∧ r < 20) = b := ⟨_, rfl⟩
  have HGO := Lib.hid hgo
  clear hgo
  go_upto_region 6 with fail
  go_cut [47] from 40 to 233 (fun v wx => wx = W ∧ v = .bool go)
  case first =>
    -- DONE
    have hslz : (sl : Int) ≤ 9223372036854775807 := by omega
    by_cases hlt : r < sl
    · by_cases hr2 : r < 20
      · obtain rfl : go = true := by rw [← HGO.out]; exact decide_eq_true ⟨hlt, hr2⟩
        have h1 : (r : Int) < (sl : Int) := by omega
        have h2 : (r : Int) < 20 := by omega
        go_wp2_with fail
        go_meet
        case rel => exact ⟨rfl, rfl⟩
      · obtain rfl : go = false := by rw [← HGO.out]; exact decide_eq_false (fun h => hr2 h.2)
        have h1 : (r : Int) < (sl : Int) := by omega
        have h2 : ¬ (r : Int) < 20 := by omega
        go_wp2_with fail
        go_meet
        case rel => exact ⟨rfl, by simp [h1, h2]⟩
    · obtain rfl : go = false := by rw [← HGO.out]; exact decide_eq_false (fun h => hlt h.1)
      have h1 : ¬ (r : Int) < (sl : Int) := by omega
      go_wp2_with fail
      go_meet
      case rel => exact ⟨rfl, by simp [h1]⟩
  case rest =>
    obtain ⟨hwc, rfl⟩ := hcut
    subst hwc
    obtain ⟨W, hW⟩ : ∃ X, X = wc := ⟨_, rfl⟩
    subst hW
    cases go with
    | false =>
      -- DONE
      have hcb : W.heap[pb + 1]? = some (.cells #[.pointer (some ⟨pb, 0, none⟩)] 60 (0, 0)) := (HI.out.keeps.block _ (heap_lt HC0.out) (fun h => h.2 rfl)).trans HC0.out
      have c0 : W.cell? ⟨pb + 1, 0, none⟩ = some (.pointer (some ⟨pb, 0, none⟩)) := by simp [World.cell?, hcb]
      have hz := HI.out.whole hr20
      clear hcb
      go_wp2_with fail
      refine hz.mono ?_
      clear hz c0
      rintro e W2 ⟨rfl, hk2, hz⟩
      conv => whnf
      have HK2 := Lib.hid hk2
      clear hk2
      go_wp2_with fail
      refine hz.mono ?_
      clear hz
      rintro e W3 ⟨rfl, hk3⟩
      conv => whnf
      have hkA : Keeps (fun b => pb ≤ b ∧ b ≠ pb + 1 ∧ b ∉ Ds) W W3 := HK2.out.trans hk3
      have hr3 : W3.heap[w.heap.size]? = some (.cells #[.bool false] 4 (0, 0)) := ((HI.out.keeps.trans' hkA (fun b hb _ => ⟨hb.1, hb.2.1⟩)).block _ (heap_lt hlow.out.2.2) (fun h => by have := hlow.out.1; omega)).trans hlow.out.2.2
      have r0 : W3.cell? ⟨w.heap.size, 0, none⟩ = some (.bool false) := by simp [World.cell?, hr3]
      have r1 : W3.frozen? ⟨w.heap.size, 0, none⟩ = false := by simp [World.frozen?, hr3]
      have HKA := Lib.hid hkA
      have HR3 := Lib.hid hr3
      clear hk3 hkA hr3 HK2
      go_wp2_with fail
      refine ret_marks Ds _ HI.out.nd (fun D hD => ?_) (fun W' hk => ⟨.bool true, ?_, rfl, ?_⟩)
      · have h1 := HI.out.mks D hD
        have h2 := hlow.out.1
        exact (Below.heap_setCell _ _ _ _ (show D ≠ w.heap.size by omega)).trans ((HKA.out.block _ (heap_lt h1.2) (fun h => h.2.2 hD)).trans h1.2)
      · have hres : W'.cell? ⟨w.heap.size, 0, none⟩ = some (.bool true) := by
          have h1 : (W3.setCell ⟨w.heap.size, 0, none⟩ (.bool true)).heap[w.heap.size]? = some (.cells #[.bool true] 4 (0, 0)) := by rw [heap_set HR3.out]; rfl
          have h2 := (hk.block _ (heap_lt h1) (fun h => by have := (HI.out.mks _ h).1; have := hlow.out.1; omega)).trans h1
          simp [World.cell?, h2]
        simp [results, Try.results7, go_sem, hres]
      · have h2 := hlow.out.1
        have h3 : Keeps (fun b => pb ≤ b ∨ b = w.heap.size) w (W3.setCell ⟨w.heap.size, 0, none⟩ (.bool true)) := (((hlow.out.2.1.mono (S' := fun b => pb ≤ b ∨ b = w.heap.size) (fun _ h _ => h.elim)).trans' HI.out.keeps (fun b hb _ => .inl hb.1)).trans' HKA.out (fun b hb _ => .inl hb.1)).trans' (((Keeps.refl (fun b => b = w.heap.size) W3).setCell (p := ⟨w.heap.size, 0, none⟩) (fun _ => rfl) (.bool true))) (fun b hb _ => .inr hb)
        exact (h3.trans' hk (fun b hb _ => .inl (by have := (HI.out.mks _ hb).1; omega))).mono (fun b hb hl => by omega)
    | true =>
      obtain ⟨hlt, hr2⟩ : r < sl ∧ r < 20 := of_decide_eq_true HGO.out
      obtain ⟨ab, ao, rfl, hab, kd, x, u, path, cp, up, cl, cc, ul, uc, pp, pl, pc, st, hop⟩ := HH.out r hlt
      have hwp := hlow.out.1
      have hkw0 : Keeps (fun _ => False) w W := hlow.out.2.1.trans' HI.out.keeps (fun b hb hl => by omega)
      have hopr := hop.next hab hkw0
      have hsW : pb + 3 ≤ W.heap.size := by have h1 := HI.out.keeps.size; have h2 := HS0.out; omega
      have hcb : W.heap[pb + 1]? = some (.cells #[.pointer (some ⟨pb, 0, none⟩)] 60 (0, 0)) := (HI.out.keeps.block _ (heap_lt HC0.out) (fun h => h.2 rfl)).trans HC0.out
      obtain ⟨ob, hob⟩ : ∃ b, b = W.heap.size := ⟨_, rfl⟩
      obtain ⟨W1, hW1⟩ : ∃ X, X = W.alloc (.cells (opc kd x u cp up cl cc ul uc pp pl pc st) OT) := ⟨_, rfl⟩
      have hk01 : Keeps (fun _ => False) W W1 := by rw [hW1]; exact (Keeps.refl _ _).alloc _
      have hs1 : W1.heap.size = ob + 1 := by rw [hW1, hob]; simp
      have hbx1 : W1.heap[ob]? = some (.cells (opc kd x u cp up cl cc ul uc pp pl pc st) OT (0, 0)) := by rw [hW1, hob]; exact heap_alloc_new _ _
      have hox : Tv W1 (fun b => b < pb) x.k x.t x.c cp cl cc := (hop.tx.next (hkw0.trans hk01)).mono (fun b hb => by omega)
      have hou : Tv W1 (fun b => b < pb) u.k u.t u.c up ul uc := (hop.tu.next (hkw0.trans hk01)).mono (fun b hb => by omega)
      have hoq : Ints W1 (fun b => b < pb) path pp pl := (hop.tp.keeps (hkw0.trans hk01) (fun _ _ h => h)).mono (fun b hb => by omega)
      obtain ⟨c0, c1, c2, c3, c4, c5, c6, c7, c8, c9, c10⟩ := (⟨hopr.c0, hopr.c1, hopr.c2, hopr.c3, hopr.c4, hopr.c5, hopr.c6, hopr.c7, hopr.c8, hopr.c9, hopr.c10⟩ : _ ∧ _ ∧ _ ∧ _ ∧ _ ∧ _ ∧ _ ∧ _ ∧ _ ∧ _ ∧ _)
      have hi1 : (r : Int) < (sl : Int) := by omega
      have HOB := Lib.hid hob
      have HW1 := Lib.hid hW1
      have HS1 := Lib.hid hs1
      have HBX1 := Lib.hid hbx1
      have HOX := Lib.hid hox
      have HOU := Lib.hid hou
      have HOQ := Lib.hid hoq
      have HCB := Lib.hid hcb
      have HSW := Lib.hid hsW
      have HKW := Lib.hid hkw0
      have HK01 := Lib.hid hk01
      have HOP := Lib.hid hop
      clear hob hW1 hs1 hbx1 hcb hsW hkw0 hk01 hop hopr
      go_upto_region 9 with fail
      rw [← HW1.out, ← HOB.out]
      clear c0 c1 c2 c3 c4 c5 c6 c7 c8 c9 c10
      have hL1 : Hid (∀ V, Keeps (fun _ => False) W1 V → Calls Try.prog 20 #[tv x.k x.n x.t cp cl cc] V fun e w' => e = .returned (.bool (decide (0 ≤ lightN x))) ∧ Keeps (fun _ => False) V w') := Lib.hid fun V hk => Light_any x cp cl cc _ V (hox.next hk)
      have hL2 : Hid (∀ V, Keeps (fun _ => False) W1 V → Calls Try.prog 20 #[tv u.k u.n u.t up ul uc] V fun e w' => e = .returned (.bool (decide (0 ≤ lightN u))) ∧ Keeps (fun _ => False) V w') := Lib.hid fun V hk => Light_any u up ul uc _ V (hou.next hk)
      obtain ⟨m1, hm1⟩ : ∃ m, decide (0 ≤ lightN x) = m := ⟨_, rfl⟩
      obtain ⟨m2, hm2⟩ : ∃ m, decide (0 ≤ lightN u) = m := ⟨_, rfl⟩
      have HM1 : Hid (m1 = true → x.c.nodes ≤ 3000) := Lib.hid fun h => lightN_nodes x (by rw [h] at hm1; exact of_decide_eq_true hm1)
      have HM2 : Hid (m2 = true → u.c.nodes ≤ 3000) := Lib.hid fun h => lightN_nodes u (by rw [h] at hm2; exact of_decide_eq_true hm2)
      rw [hm1] at hL1
      rw [hm2] at hL2
      clear hm1 hm2 hox hou hoq
      go_cut [63] from 40 to 233 (fun v V => v = .bool (!(m1 && m2)) ∧ Keeps (fun _ => False) W1 V)
      case first =>
        -- DONE
        obtain ⟨_, ⟨a0, a1, a2, a3⟩, ⟨b0, b1, b2, b3⟩⟩ := boxO HBX1.out
        go_wp2_with fail
        refine (hL1.out W1 (Keeps.refl _ _)).mono ?_
        clear a0 a1 a2 a3 b0 b1 b2 b3
        rintro e V ⟨rfl, hk⟩
        conv => whnf
        obtain ⟨_, _, ⟨b0, b1, b2, b3⟩⟩ := boxO (hk.heap HBX1.out)
        cases m1 with
        | false =>
          go_wp2_with fail
          go_meet
          case rel => exact ⟨rfl, hk⟩
        | true =>
          go_wp2_with fail
          refine (hL2.out V hk).mono ?_
          clear b0 b1 b2 b3
          rintro e V2 ⟨rfl, hk2⟩
          conv => whnf
          go_wp2_with fail
          go_meet
          case rel => exact ⟨by simp, hk.trans hk2⟩
      case rest =>
        obtain ⟨rfl, hkV⟩ := hcut
        obtain ⟨V, hV⟩ : ∃ X, X = wc := ⟨_, rfl⟩
        subst hV
        by_cases hm : m1 = true ∧ m2 = true
        · obtain ⟨rfl, rfl⟩ := hm
          have hx := HM1.out rfl
          have hu := HM2.out rfl
          have hsV := hkV.size
          have hs1 := HS1.out
          have hob := HOB.out
          have hsw := HSW.out
          have hkA : Keeps (fun _ => False) W V := HK01.out.trans hkV
          go_upto_region 10 with fail
          rename_i _ hA
          refine wp_thenN ?_
          refine freshB (w := w) (Lib.hid ?_) (hkV.heap HBX1.out) (HOX.out.next hkV) (HOU.out.next hkV) (HOQ.out.keeps hkV (fun _ _ h => h)) (hkA.heap HCB.out) (fun D hD => ?_) (by omega) ?_ (HI.out.keeps.trans' hkA (fun _ h => h.elim)) HI.out.nd HOP.out hab (HKW.out.trans hkA) hlt hr2 hx hu (by omega) _ _ _ _ _ _ _ _ _ _ _ _ _ _ _ _ _ _ _ _ _ _ _ _ _ _ _ _ _ _ _ _ _ _ _ _ _ _ _ _ _ _ _ _ _ _ _ _ _ _ _ _ _ _ _ _ _ _ _ _ _ _ _ _ _ _ _ _ _ _ _ _ _ _ _ _ _ _ _ _ _ _ _ _ _ _ _ _ _ _ _ _ _ _ _ _ _ _ _ _ _ _ _ _ _ _ _ _ _ _ _ _ _ _ _ _ _ _ _ _ _ _ _ _ _ _ _ _ _ _ _ _ _ _ _ _ _ _ _ _ _ _ _ _ _ _ _ _ _ _ _ _ _ _ _ _ _ _ _ _ _ _ _ _ _ _ _ _ _ _ _ _ _ _ _ _ _ _ _ _ _ _ _ _ _ _ _ _ _ _ _ _ _ _ _ _ _ _ _ _ _ _ _ _ _ _ _ _ _ _ _ _ _ _ _ _ _ _ _ _ _ (fun a w h => hA a w (wp_thenN' h))
          · intro W' Ds'
            intros
            rename_i hF
            have HF := Lib.hid hF
            clear hF hA
            go_wp2_with fail
            go_roundg (gk - 1)
            case measure => have := HRM.out; omega
            case rel => exact ⟨r + 1, Ds', by have := HRM.out; omega, by go_num, rfl, HF.out⟩
          · have h1 := HI.out.mks D hD
            exact ⟨h1.1, by have := heap_lt h1.2; omega, hkA.heap h1.2⟩
          · exact (HI.out.bk.more (C' := fun b => pb ≤ b ∧ b ≠ pb + 1 ∧ b < ob ∧ b ∉ Ds) (fun b hb hl => ⟨hb.1, hb.2.1, by omega, hb.2.2⟩) (Nat.le_refl _) (Nat.le_refl _) (Nat.le_refl _)).next hkA
        · have hm2 := not_both m1 m2 hm
          have HF := Lib.hid (HI.out.next (HK01.out.trans hkV))
          rw [hm2]
          clear hkV hm2 hm
          go_wp2_with fail
          go_roundg (gk - 1)
          case measure => have := HRM.out; omega
          case rel => exact ⟨r + 1, Ds, by have := HRM.out; omega, by go_num, rfl, HF.out⟩
end Go.Proofs.Ytnphhibfiklfjaa
