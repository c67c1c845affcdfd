/-
  espalierref4.kinds, Kinds; espalierlaw4.EqNames: their walks.
-/
import Derived.Test.YtnphhibfiklfjaaOver
import Derived.Test.YtnphhibfiklfjaaKinds2
import Derived.Test.YtnphhibfiklfjaaRMay
import Derived.Test.YtnphhibfiklfjaaROwn
import Derived.StillTailTactics
import Derived.BigQuiet
import Derived.Deep.LoopGhost
set_option linter.unusedVariables false
set_option linter.unusedSimpArgs false
namespace Go.Proofs.Ytnphhibfiklfjaa
open Go.RowKit Go.Maps

theorem kl_same (x k : ByteArray) : (kl x).sameKey (kl k) = (x.toList == k.toList) := by
  show (x.data.toList == k.data.toList) = _
  rw [ByteArray.toList_eq, ByteArray.toList_eq]
theorem addU_seen {acc : List ByteArray} {k : ByteArray} {b : Bool} (h : acc.any (fun x => x.toList == k.toList) = b) : addU acc k = if b then acc else acc ++ [k] := by
  unfold addU
  rw [show (acc.any fun x => (kl x).sameKey (kl k)) = b by rw [← h]; congr 1; funext x; exact kl_same x k]
theorem foldU_step {c : Fo} {j : Nat} {k1 n1 t1 s1 r1} {a res : List ByteArray} (hd : c.drop j = .cons k1 n1 t1 s1 r1) (h : res = (c.drop j).kinds.foldl addU a) : res = (c.drop (j + 1)).kinds.foldl addU ((k1 :: s1.kinds).foldl addU a) := by
  rw [h, hd, Fo.drop_step hd, ← List.foldl_append]
  rfl
theorem foldU_le (l acc : List ByteArray) : (l.foldl addU acc).length ≤ acc.length + l.length := by
  induction l generalizing acc with
  | nil => simp
  | cons k l ih =>
    have h1 := ih (addU acc k)
    have h2 := addU_le acc k
    simp only [List.foldl_cons, List.length_cons]
    omega
theorem Fo.kinds_len (f : Fo) : f.kinds.length = f.nodes := by
  induction f with
  | nil => rfl
  | cons k n t c r ih1 ih2 => simp [Fo.kinds, Fo.nodes, ih1, ih2]
/-- A list of names that grows. -/
structure NamesI (w0 : World) (v0 : Value) (W : World) (acc : List ByteArray) (v : Value) : Prop where
  row : W.ownsRow 0 9 1 v acc.length (acc.map .string)
  keeps : Keeps (fun b => v0.ownBlock = some b) w0 W
  fresh : ∀ b, v.ownBlock = some b → v0.ownBlock = some b ∨ w0.heap.size ≤ b
theorem ownsRow_keeps {w w' : World} {D n : Nat} {e : TypeId} {v : Value} {xs : List Value} {S : Nat → Prop} (h : w.ownsRow D e 1 v n xs) (hk : Keeps S w w') (hS : ∀ b, v.ownBlock = some b → ¬ S b) : w'.ownsRow D e 1 v n xs := by
  refine ownsRow_same h (fun b hb => ?_)
  cases ho : v.ownBlock with
  | none => rw [ho] at hb; simp at hb
  | some g =>
    rw [ho] at hb
    simp only [Option.toList_some, List.mem_singleton] at hb
    subst hb
    exact hk.block b (h.lt b ho).2 (hS b ho)
theorem NamesI.next {w0 W W' : World} {v0 v v' : Value} {acc acc' : List ByteArray} (h : NamesI w0 v0 W acc v) (h' : NamesI W v W' acc' v') : NamesI w0 v0 W' acc' v' :=
  ⟨h'.row, h.keeps.trans' h'.keeps (fun b hb hl => by
    rcases h.fresh b hb with h1 | h1
    · exact h1
    · omega), fun b hb => by
    rcases h'.fresh b hb with h1 | h1
    · exact h.fresh b h1
    · exact .inr (Nat.le_trans h.keeps.size h1)⟩
theorem NamesI.start {w : World} {acc : List ByteArray} {v : Value} (h : w.ownsRow 0 9 1 v acc.length (acc.map .string)) : NamesI w v w acc v := ⟨h, Keeps.refl _ _, fun b hb => .inl hb⟩
theorem NamesI.still {w0 W W' : World} {v0 v : Value} {acc : List ByteArray} (h : NamesI w0 v0 W acc v) (hk : Keeps (fun _ => False) W W') : NamesI w0 v0 W' acc v :=
  h.next ⟨ownsRow_keeps h.row hk (fun _ _ h => h), hk.mono (fun _ h _ => h.elim), fun b hb => .inl hb⟩
theorem NamesI.push {W W1 w3 : World} {v : Value} {acc : List ByteArray} {k : ByteArray} {g cap : Nat} (h : W.ownsRow 0 9 1 v acc.length (acc.map .string)) (hk : Keeps (fun _ => False) W W1)
    (h3 : w3.ownsRow 0 9 1 (.slice (some ⟨g, 0, none⟩) (acc.length + 1) cap) (acc.length + 1) (acc.map .string ++ [.string k])) (hg : W1.grownBy w3 v.ownBlock) (ha : v.ownBlock = some g ∨ g = W1.heap.size) :
    NamesI W v w3 (acc ++ [k]) (.slice (some ⟨g, 0, none⟩) (acc.length + 1) cap) := by
  refine ⟨by rw [List.map_append, List.length_append]; exact h3, (hk.mono (fun _ h _ => h.elim)).grown hg (fun x hx _ => hx), fun b hb => ?_⟩
  injection hb with hb
  subst hb
  rcases ha with h1 | h1
  · exact .inl h1
  · exact .inr (by have := hk.size; show W.heap.size ≤ g; omega)
set_option maxRecDepth 100000 in
set_option maxHeartbeats 3200000 in
theorem rkinds_any : ∀ (N : Nat) (acc : List ByteArray) (v0 : Value) (k : ByteArray) (n : Int) (t : ByteArray) (c : Fo) (cp : Option Addr) (cl cc : Nat) (A : Nat → Prop) (D : Nat) (w : World), c.nodes < N → Tv w A k t c cp cl cc → (∀ b, A b → b < D) → D ≤ w.heap.size → (∀ b, A b → v0.ownBlock ≠ some b) → w.ownsRow 0 9 1 v0 acc.length (acc.map .string) → acc.length + c.nodes + 1 ≤ 100000 →
    Calls Try.prog 67 #[v0, tv k n t cp cl cc] w fun e w' => ∃ v, e = .returned v ∧ NamesI w v0 w' ((k :: c.kinds).foldl addU acc) v := by
  intro N
  induction N with
  | zero => intros; omega
  | succ N ih =>
    intro acc v0 k n t c cp cl cc A D w hN h hAD hDw hA hrow hsz
    obtain ⟨w1, hw1⟩ : ∃ w1, w1 = w.alloc (.cells (four k n t cp cl cc) T) := ⟨_, rfl⟩
    have hK1 : Keeps (fun _ => False) w w1 := by rw [hw1]; exact (Keeps.refl _ w).alloc _
    have hs1 : w1.heap.size = w.heap.size + 1 := by rw [hw1]; simp
    have hbx : w1.heap[w.heap.size]? = some (.cells (four k n t cp cl cc) T (0, 0)) := by rw [hw1]; exact heap_alloc_new _ _
    have ht1 := h.next hK1
    have hlc := h.lc
    have hcm := h.cm
    have hr1 := ownsRow_keeps hrow hK1 (fun _ _ h => h)
    have hne : ∀ b, v0.ownBlock = some b → b < w.heap.size := fun b hb => (hrow.lt b hb).2
    obtain ⟨i0, hi0, hz0, hz1, hz2⟩ := info_parts Try.strInfo
    have hopen : ∃ vp vl vc, v0 = .slice vp vl vc ∧ vl = acc.length ∧ (0 < vl → ∃ g, vp = some ⟨g, 0, none⟩) := by
      rcases hrow.2 with ⟨rfl, h0⟩ | ⟨g, cap, cur, rfl, _⟩
      · exact ⟨_, _, _, rfl, h0.symm, fun h => by omega⟩
      · exact ⟨_, _, _, rfl, rfl, fun _ => ⟨g, rfl⟩⟩
    obtain ⟨vp, vl, vc, rfl, hvl, hvg⟩ := hopen
    have HW := Lib.hid hw1
    have HI := Lib.hid ih
    have hvs : (vl : Int) ≤ 100000 := by omega
    have HVL := Lib.hid hvl
    have HHA := Lib.hid hA
    clear hw1 ih hvl hA
    go_enter Try.func67, Try.ntmps67
    go_upto_region 1 with fail
    rw [← HW.out]
    go_wp2_with fail
    go_loopg [5, 6] vl (fun m s i W' => ∃ (j : Nat) (g : Bool), j + m = vl ∧ s = .bool g ∧ i = .int .i64 j ∧ (acc.take j).any (fun x => x.toList == k.toList) = g ∧ Keeps (fun _ => False) w1 W')
    case atStart => exact ⟨0, false, by omega, rfl, rfl, by simp, Keeps.refl _ _⟩
    case round =>
      obtain ⟨j, g, hjm, rfl, rfl, hI, hkr⟩ := hrel
      have HJ := Lib.hid hjm
      have HIr := Lib.hid hI
      have HKR := Lib.hid hkr
      have hbr := hkr.heap hbx
      obtain ⟨b0, b1, b2, b3, _⟩ := box4 hbr
      have hrr := ownsRow_keeps hr1 hkr (fun _ _ h => h)
      clear hjm hI hkr hbr
      by_cases hlt : j < vl
      · obtain ⟨gb, rfl⟩ := hvg (by omega)
        have hrv := hrr
        rw [← HVL.out] at hrv
        have hx := hrv.cellAt j (by omega)
        rw [List.getElem?_map, List.getElem?_eq_getElem (by rw [← HVL.out]; exact hlt)] at hx
        obtain ⟨x, hxx⟩ : ∃ x, acc[j]'(by rw [← HVL.out]; exact hlt) = x := ⟨_, rfl⟩
        rw [hxx] at hx
        have hx : wr.cell? ⟨gb, j, none⟩ = some (.string x) := hx
        have hnx : (acc.take (j + 1)).any (fun x => x.toList == k.toList) = (g || x.toList == k.toList) := by
          rw [List.take_succ_eq_append_getElem (by rw [← HVL.out]; exact hlt), List.any_append, HIr.out, hxx]
          simp
        obtain ⟨v, hv⟩ : ∃ v, (x.toList == k.toList) = v := ⟨_, rfl⟩
        rw [hv] at hnx
        have HN := Lib.hid hnx
        have hi0' : (0 : Int) ≤ (j : Int) := Int.natCast_nonneg _
        have hi1 : (j : Int) < (vl : Int) := by omega
        clear hxx hnx hrr hrv
        cases g with
        | true =>
          go_wp2_with fail
          go_quiet (fail)
          go_wp2_with fail
          go_roundg (gk - 1)
          case measure => have := HJ.out; omega
          case rel => exact ⟨j + 1, true, by have := HJ.out; omega, rfl, by go_num, by rw [HN.out]; rfl, HKR.out.drewN _⟩
        | false =>
          go_wp2_with fail
          go_quiet (fail)
          go_wp2_with fail
          go_roundg (gk - 1)
          case measure => have := HJ.out; omega
          case rel => exact ⟨j + 1, v, by have := HJ.out; omega, rfl, by go_num, by rw [HN.out]; rfl, HKR.out.drewN _⟩
      · have hall : acc.any (fun x => x.toList == k.toList) = g := by
          have h1 := HIr.out
          rwa [List.take_of_length_le (by have := HVL.out; omega)] at h1
        have hadd := addU_seen hall
        have HADD := Lib.hid hadd
        clear hall hadd
        have hafter : Hid (∀ (W : World) (v : Value), NamesI w1 (.slice vp vl vc) W (addU acc k) v → ∃ vp1 vl1 vc1, v = .slice vp1 vl1 vc1 ∧ NamesI w1 (.slice vp vl vc) W (addU acc k) (.slice vp1 vl1 vc1)) := Lib.hid fun W v h => by
          rcases h.row.2 with ⟨rfl, h0⟩ | ⟨g, cap, cur, rfl, _⟩
          · exact ⟨_, _, _, rfl, h⟩
          · exact ⟨_, _, _, rfl, h⟩
        have hmain : NamesI w1 (.slice vp vl vc) wr acc (.slice vp vl vc) := ⟨hrr, HKR.out.mono (fun _ h _ => h.elim), fun b hb => .inl hb⟩
        have HM := Lib.hid hmain
        have hrw := hrr
        clear hmain hrr
        go_upto_if 25 with fail
        go_cut [0] from 7 (fun v W => NamesI w1 (.slice vp vl vc) W (addU acc k) v)
        case first =>
          cases g with
          | true =>
            go_wp2_with fail
            go_meet
            case rel => rw [HADD.out]; exact HM.out
          | false =>
            have hbase : 0 ≤ wr.heap.size := Nat.zero_le _
            go_wp2_with (at_builtin; refine wpList_append_lies _ rfl _ _ _ rfl 0 9 i0 _ 1 16 Try.underlying58 hi0 hz0 hz1 hz2 rfl (by decide) (.slice vp vl vc) acc.length (acc.map .string) rfl (hrw.alloc _) ⟨wr.heap.size, 0, none⟩ 1 1 [.string k] rfl rfl (World.news_of_block (cs := #[.string k]) (t := 9) (fr := (0, 0)) (heap_alloc_new wr _)) (by simp [Value.oneCell']) (by omega) (by unfold maxLen; omega) (by omega) (Nat.zero_le _) (wr.heap.size + 1) (by simp) ?_; intro gg cap w3 hown3 hgrow3 hat3 hlt3)
            go_meet
            case rel =>
              rw [HADD.out]
              exact HM.out.next (NamesI.push HM.out.row ((Keeps.refl _ wr).alloc _) hown3 hgrow3 (by simpa using hat3))
        case rest =>
          obtain ⟨W2, hW2⟩ : ∃ V, V = wc := ⟨_, rfl⟩
          subst hW2
          clear HM hrw b0 b1 b2 b3 HADD HIr HKR HJ
          go_wp2_with fail
          go_loopg [0, 7] cl (fun m v i W' => ∃ (j : Nat) (acc' : List ByteArray), j + m = cl ∧ i = .int .i64 j ∧ NamesI w1 (.slice vp vl vc) W' acc' v ∧ (k :: c.kinds).foldl addU acc = (c.drop j).kinds.foldl addU acc' ∧ acc'.length + (c.drop j).nodes ≤ 100000)
          case atStart => exact ⟨0, addU acc k, by omega, rfl, hcut, rfl, by have := addU_le acc k; show _ + c.nodes ≤ _; omega⟩
          case round =>
            obtain ⟨j, acc', hjm, rfl, hI, hres, hz⟩ := hrel
            have HJ := Lib.hid hjm
            have HIr := Lib.hid hI
            have HR := Lib.hid hres
            have hkr := hI.keeps
            have hbr := (hkr.block _ (by omega) (by intro h; have := hne _ h; omega)).trans hbx
            obtain ⟨b0, b1, b2, b3, _⟩ := box4 hbr
            clear hjm hI hres hcut
            by_cases hlt : j < cl
            · have htr := ht1.keeps hkr (fun b hb e => HHA.out b hb e)
              obtain ⟨kb, ko, rfl, hAk, hkb⟩ := htr.kids.hasAddr (by omega)
              obtain ⟨k1, n1, t1, s1, r1, hdr⟩ := Fo.drop_lt j c (by rw [ht1.len]; exact hlt)
              obtain ⟨cp1, cl1, cc1, hn1⟩ := htr.kids.at_ j hdr hlt
              have hnd : (c.drop j).nodes = s1.nodes + 1 + r1.nodes := by rw [hdr]; simp only [Fo.nodes]; omega
              have hwr := hkr.size
              obtain ⟨nv, hnv⟩ : ∃ x, x = u0 := ⟨_, rfl⟩
              have hz2 := HI.out acc' u0 k1 n1 t1 s1 cp1 cl1 cc1 A D wr (by have := Tv.kidNodes hdr; omega) hn1.tv hAD (by omega) (fun b hb e => by
                rcases HIr.out.fresh b e with h1 | h1
                · exact HHA.out b hb h1
                · have := hAD b hb; omega) HIr.out.row (by omega)
              have HRR := Lib.hid (foldU_step hdr HR.out)
              have hzn : ((k1 :: s1.kinds).foldl addU acc').length + (c.drop (j + 1)).nodes ≤ 100000 := by
                have h1 := foldU_le (k1 :: s1.kinds) acc'
                rw [List.length_cons, Fo.kinds_len] at h1
                rw [Fo.drop_step hdr]
                omega
              have HZN := Lib.hid hzn
              have a0 := hn1.c0
              have a1 := hn1.c1
              have a2 := hn1.c2
              have a3 := hn1.c3
              have hi0' : (0 : Int) ≤ (j : Int) := Int.natCast_nonneg _
              have hi1 : (j : Int) < (cl : Int) := by omega
              clear hdr hn1 htr hzn hz hnd hkr hnv
              go_wp2_with fail
              refine hz2.mono ?_
              clear hz2 a0 a1 a2 a3 b0 b1 b2 b3
              rintro e W3 ⟨v3, rfl, hN3⟩
              have HN3 := Lib.hid hN3
              clear hN3
              go_wp2_with fail
              go_roundg (gk - 1)
              case measure => have := HJ.out; omega
              case rel => exact ⟨j + 1, _, by have := HJ.out; omega, by go_num, HIr.out.next HN3.out, HRR.out, HZN.out⟩
            · have hend : c.drop j = .nil := Fo.drop_len_le (by rw [ht1.len]; omega)
              have hfin : NamesI w (.slice vp vl vc) wr ((k :: c.kinds).foldl addU acc) u0 := by
                rw [HR.out, hend]
                exact NamesI.next ⟨hr1, hK1.mono (fun _ h _ => h.elim), fun b hb => .inl hb⟩ HIr.out
              have HF := Lib.hid hfin
              clear hend hfin hkr
              go_wp2_with fail
              go_ret
              exact ⟨_, rfl, HF.out⟩

theorem ownsRow_up {w : World} {base base' e size n : Nat} {v : Value} {xs : List Value} (h : w.ownsRow base e size v n xs) (hb : ∀ b, v.ownBlock = some b → base' ≤ b) : w.ownsRow base' e size v n xs := by
  refine ⟨h.1, ?_⟩
  rcases h.2 with h2 | ⟨g, cap, cur, rfl, hg, r⟩
  · exact .inl h2
  · exact .inr ⟨g, cap, cur, rfl, hb g rfl, r⟩
theorem ownsRow_open {w : World} {base e size n : Nat} {v : Value} {xs : List Value} (h : w.ownsRow base e size v n xs) : ∃ vp vl vc, v = .slice vp vl vc ∧ vl = n ∧ (0 < vl → ∃ g, vp = some ⟨g, 0, none⟩) := by
  rcases h.2 with ⟨rfl, h0⟩ | ⟨g, cap, cur, rfl, _⟩
  · exact ⟨_, _, _, rfl, h0.symm, fun h => by omega⟩
  · exact ⟨_, _, _, rfl, rfl, fun _ => ⟨g, rfl⟩⟩
set_option maxHeartbeats 400000 in
theorem rKinds_any (x : Nd) (cp : Option Addr) (cl cc : Nat) (A : Nat → Prop) (w : World) (h : Tv w A x.k x.t x.c cp cl cc) :
    Calls Try.prog 55 #[tv x.k x.n x.t cp cl cc] w (KindsR x w) := by
  obtain ⟨w1, hw1⟩ : ∃ w1, w1 = w.alloc (.cells (four x.k x.n x.t cp cl cc) T) := ⟨_, rfl⟩
  have hK1 : Keeps (fun _ => False) w w1 := by rw [hw1]; exact (Keeps.refl _ w).alloc _
  have hs1 : w1.heap.size = w.heap.size + 1 := by rw [hw1]; simp
  have hb1 : w1.heap[w.heap.size]? = some (.cells (four x.k x.n x.t cp cl cc) T (0, 0)) := by rw [hw1]; exact heap_alloc_new _ _
  have ht1 := h.top.next hK1
  have hS := rSmall_any x cp cl cc _ w1 ht1
  obtain ⟨b0, b1, b2, b3, _⟩ := box4 hb1
  have HW := Lib.hid hw1
  clear hw1
  by_cases hs : x.small
  · have hF : Hid (kindsF x = (x.k :: x.c.kinds).foldl addU []) := by show _ = _; simp [kindsF, hs, uniq]
    have hN : Hid (∀ W, Keeps (fun _ => False) w1 W → Calls Try.prog 67 #[.slice none 0 0, tv x.k x.n x.t cp cl cc] W fun e w' => ∃ v, e = .returned v ∧ NamesI W (.slice none 0 0) w' ((x.k :: x.c.kinds).foldl addU []) v) := Lib.hid fun W hk =>
      rkinds_any (x.c.nodes + 1) [] (.slice none 0 0) x.k x.n x.t x.c cp cl cc _ w.heap.size W (by omega) (ht1.next hk) (fun b hb => hb) (by have := hk.size; omega) (fun b _ e => by simp [Value.ownBlock] at e) (World.ownsRow_nil _ _ _ _) (by have := hs.1; simp only [Nd.nodes] at this; simp only [List.length_nil]; omega)
    simp only [hs, decide_true] at hS
    clear hs ht1
    go_enter Try.func55, Try.ntmps55
    go_upto_region 1 with fail
    rw [← HW.out]
    go_wp2_with fail
    refine hS.mono ?_
    clear hS b0 b1 b2 b3
    rintro e W ⟨rfl, hk⟩
    obtain ⟨b0, b1, b2, b3, _⟩ := box4 (hk.heap hb1)
    have hN := hN.out _ hk
    go_wp2_with fail
    refine hN.mono ?_
    clear hN b0 b1 b2 b3
    rintro e W2 ⟨v, rfl, hI⟩
    have hfin : KindsR x w (.returned v) W2 := by
      obtain ⟨vp, vl, vc, rfl, _, _⟩ := ownsRow_open hI.row
      refine ⟨vp, vl, vc, rfl, ?_, (hK1.trans hk).trans (hI.keeps.mono fun b hb _ => by simp [Value.ownBlock] at hb)⟩
      rw [hF.out]
      refine ownsRow_up hI.row (fun b hb => ?_)
      rcases hI.fresh b hb with h1 | h1
      · simp [Value.ownBlock] at h1
      · have := hk.size; omega
    have HFN := Lib.hid hfin
    clear hfin hI
    go_wp2_with fail
    go_ret
    exact HFN.out
  · have hF : Hid (kindsF x = []) := by show _ = _; simp [kindsF, hs]
    simp only [hs, decide_false] at hS
    clear hs
    go_enter Try.func55, Try.ntmps55
    go_upto_region 1 with fail
    rw [← HW.out]
    go_wp2_with fail
    refine hS.mono ?_
    clear hS b0 b1 b2 b3
    rintro e W ⟨rfl, hk⟩
    go_wp2_with fail
    go_ret
    unfold KindsR
    rw [hF.out]
    exact ⟨none, 0, 0, rfl, World.ownsRow_nil _ _ _ _, hK1.trans hk⟩

theorem take_next_eq {l l' : List ByteArray} {j : Nat} (h : j < l.length) (h' : j < l'.length) (he : l.take j = l'.take j) (hx : l[j] = l'[j]) : l.take (j + 1) = l'.take (j + 1) := by
  rw [List.take_succ_eq_append_getElem h, List.take_succ_eq_append_getElem h', he, hx]
set_option maxRecDepth 100000 in
set_option maxHeartbeats 800000 in
theorem EqNames_any (l l' : List ByteArray) (v v' : Value) (w : World) (h : w.ownsRow 0 9 1 v l.length (l.map .string)) (h' : w.ownsRow 0 9 1 v' l'.length (l'.map .string)) (hsz : l.length ≤ 100000) :
    Calls Try.prog 54 #[v, v'] w fun e w' => e = .returned (.bool (decide (l = l'))) ∧ Keeps (fun _ => False) w w' := by
  obtain ⟨vp, vl, vc, rfl, hvl, hvg⟩ := ownsRow_open h
  obtain ⟨up, ul, uc, rfl, hul, hug⟩ := ownsRow_open h'
  have hvs : (vl : Int) ≤ 100000 := by omega
  have HVL := Lib.hid hvl
  have HUL := Lib.hid hul
  by_cases hne : vl = ul
  · subst hne
    clear hvl hul
    go_enter Try.func54, Try.ntmps54
    go_wp2_with fail
    go_loopg [5] vl (fun m i W' => ∃ (j : Nat), j + m = vl ∧ i = .int .i64 j ∧ l.take j = l'.take j ∧ Keeps (fun _ => False) w W')
    case atStart => exact ⟨0, by omega, rfl, by simp, Keeps.refl _ _⟩
    case round =>
      obtain ⟨j, hjm, rfl, hI, hkr⟩ := hrel
      have HJ := Lib.hid hjm
      have HIr := Lib.hid hI
      have HKR := Lib.hid hkr
      have hr := ownsRow_keeps h hkr (fun _ _ h => h)
      have hr' := ownsRow_keeps h' hkr (fun _ _ h => h)
      clear hjm hI hkr
      by_cases hlt : j < vl
      · obtain ⟨gb, rfl⟩ := hvg (by omega)
        obtain ⟨gb', rfl⟩ := hug (by omega)
        rw [← HVL.out] at hr
        rw [← HUL.out] at hr'
        have hx := hr.cellAt j (by omega)
        have hx' := hr'.cellAt j (by omega)
        rw [List.getElem?_map, List.getElem?_eq_getElem (by rw [← HVL.out]; exact hlt)] at hx
        rw [List.getElem?_map, List.getElem?_eq_getElem (by rw [← HUL.out]; exact hlt)] at hx'
        have HNX := Lib.hid (take_next_eq (l := l) (l' := l') (j := j) (by rw [← HVL.out]; exact hlt) (by rw [← HUL.out]; exact hlt) HIr.out)
        have hdiff : l[j]'(by rw [← HVL.out]; exact hlt) ≠ l'[j]'(by rw [← HUL.out]; exact hlt) → l ≠ l' := fun h e => h (by simp [e])
        obtain ⟨x, hxx⟩ : ∃ x, l[j]'(by rw [← HVL.out]; exact hlt) = x := ⟨_, rfl⟩
        obtain ⟨x', hxx'⟩ : ∃ x, l'[j]'(by rw [← HUL.out]; exact hlt) = x := ⟨_, rfl⟩
        rw [hxx] at hx hdiff
        rw [hxx'] at hx' hdiff
        simp only [hxx, hxx'] at HNX
        have hx : wr.cell? ⟨gb, j, none⟩ = some (.string x) := hx
        have hx' : wr.cell? ⟨gb', j, none⟩ = some (.string x') := hx'
        have hi0' : (0 : Int) ≤ (j : Int) := Int.natCast_nonneg _
        have hi1 : (j : Int) < (vl : Int) := by omega
        clear hxx hxx' hr hr'
        by_cases he : x = x'
        · subst he
          have HN := Lib.hid (HNX.out rfl)
          clear hdiff HNX
          go_wp2_with fail
          go_quiet (fail)
          go_wp2_with fail
          go_roundg (gk - 1)
          case measure => have := HJ.out; omega
          case rel => exact ⟨j + 1, by have := HJ.out; omega, by go_num, HN.out, HKR.out.drewN _⟩
        · have hN := Lib.hid (hdiff he)
          have h1 := txt_ne he
          clear hdiff HNX he
          go_wp2_with fail
          go_quiet (fail)
          go_wp2_with fail
          go_ret
          exact ⟨by rw [decide_eq_false hN.out]; rfl, HKR.out.drewN _⟩
      · have hall : l = l' := by
          have h1 := HIr.out
          rwa [List.take_of_length_le (by have := HVL.out; omega), List.take_of_length_le (by have := HUL.out; omega)] at h1
        have HALL := Lib.hid hall
        clear hall hr hr'
        go_wp2_with fail
        go_ret
        exact ⟨by rw [decide_eq_true HALL.out]; rfl, HKR.out⟩
  · have hd : l ≠ l' := fun e => hne (by rw [hvl, hul, e])
    have hni : ((vl : Int) == (ul : Int)) = false := by simp; omega
    have HD := Lib.hid hd
    clear hvl hul hd
    go_enter Try.func54, Try.ntmps54
    go_wp2_with fail
    go_ret
    exact ⟨by rw [decide_eq_false HD.out]; rfl, Keeps.refl _ _⟩
end Go.Proofs.Ytnphhibfiklfjaa
