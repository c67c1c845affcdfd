/-
  espalierref24.look: its walk.
-/
import Derived.Test.YtccoihmibkpedaaRLookP

set_option linter.unusedVariables false

set_option linter.unusedSimpArgs false

namespace Go.Proofs.Ytccoihmibkpedaa

open Go.RowKit

attribute [local go_sem] Oper.semAt_some

theorem any_take_succ {α : Type} {L : List α} {p : α → Bool} {j : Nat} {e : α} (h : L[j]? = some e) : (L.take (j + 1)).any p = ((L.take j).any p || p e) := by
  rw [List.take_add_one, h, List.any_append]
  simp
theorem any_take_all {α : Type} {L : List α} {p : α → Bool} {j : Nat} (h : L.length ≤ j) : (L.take j).any p = L.any p := by rw [List.take_of_length_le h]
theorem txt_some {t : ByteArray} (ht : t ≠ ⟨#[]⟩) : t.toList ≠ [] ∧ t.toList.isEmpty = false ∧ decide (t.size = 0) = false := by
  have ht1 : t.toList ≠ [] := fun h => by
    apply ht
    rw [ByteArray.toList_eq] at h
    cases t with | mk d => cases d; simp_all
  refine ⟨ht1, by simpa using ht1, ?_⟩
  rw [decide_eq_false_iff_not]
  intro h
  apply ht
  have h2 : t.data.size = 0 := h
  cases t with | mk d => have h3 := Array.eq_empty_of_size_eq_zero h2; simp only at h3; rw [h3]
/-- How the loop over the kids stands. -/
def lookC (b : Bool) (L : List Note) (f : Fo) : List Note × Bool := if b then lookFo f L else (L, false)
theorem lookC_step {k n t c r} {L : List Note} {f : Fo} {j : Nat} (hd : f.drop j = .cons k n t c r) : lookC true L (f.drop j) = lookC (look1 ⟨k, n, t, c⟩ L).2 (look1 ⟨k, n, t, c⟩ L).1 (f.drop (j + 1)) := by
  rw [hd, Fo.drop_step hd]
  unfold lookC
  rw [if_pos rfl, lookFo_cons]
  by_cases h : (look1 ⟨k, n, t, c⟩ L).2 = true
  · rw [if_pos h, if_pos h]
  · rw [if_neg h, if_neg h]
    exact Prod.ext rfl (by simpa using h)
set_option maxRecDepth 100000 in
set_option maxHeartbeats 6400000 in
theorem look_any (D : Nat) (A : Nat → Prop) (hA : ∀ b, A b → b < D) : ∀ (N : Nat) (k : ByteArray) (n : Int) (t : ByteArray) (c : Fo) (cp : Option Addr) (cl cc : Nat) (L : List Note) (lp : Option Addr) (ll lc : Nat) (w : World), c.nodes < N → Tv w A k t c cp cl cc → NotesI D w L lp ll lc → D ≤ w.heap.size → L.length + c.nodes ≤ 100000 →
    Calls Try.prog 96 #[tv k n t cp cl cc, .slice lp ll lc] w (LookR D lp ll lc (look1 ⟨k, n, t, c⟩ L) w) := by
  intro N
  induction N with
  | zero => intros; omega
  | succ N ih =>
    intro k n t c cp cl cc L lp ll lc w hN h hI hD hlen
    obtain ⟨W1, hW1⟩ : ∃ W1, W1 = w.alloc (.cells (four k n t cp cl cc) T) := ⟨_, rfl⟩
    have hK : Keeps (fun _ => False) w W1 := by rw [hW1]; exact (Keeps.refl _ w).alloc _
    have hs1 : W1.heap.size = w.heap.size + 1 := by rw [hW1]; simp
    have hb1 : W1.heap[w.heap.size]? = some (.cells (four k n t cp cl cc) T (0, 0)) := by rw [hW1]; exact heap_alloc_new _ _
    have ht1 := h.next hK
    have hI1 := hI.keeps hK (fun _ _ h => h)
    have hown : ∀ b, (Value.slice lp ll lc).ownBlock = some b → D ≤ b ∧ b < w.heap.size := fun b hb => World.ownsRow.lt hI b hb
    have hz := rVar_any k n t c cp cl cc _ W1 ht1
    obtain ⟨c0, c1, c2, c3, _⟩ := box4 hb1
    have HW := Lib.hid hW1
    have HIH := Lib.hid ih
    have HB1 := Lib.hid hb1
    have HT1 := Lib.hid ht1
    have HI1 := Lib.hid hI1
    have HOW := Lib.hid hown
    have HS1 := Lib.hid hs1
    have HN := Lib.hid hN
    have hts := h.size.1
    have HCL := Lib.hid h.len
    have hlcc := h.lc
    have hccm := h.cm
    clear ih hW1 hb1 hI1 ht1 hown hs1 hN h
    go_enter Try.func96, Try.ntmps96
    go_upto_region 1 with fail
    rw [← HW.out]
    go_wp2_with fail
    refine hz.mono ?_
    clear hz c0 c1 c2 c3
    rintro e W2 ⟨nm, rfl, hnm, hk2⟩
    have hb2 := hk2.heap HB1.out
    cases hv : varF k with
    | some nm' =>
      obtain rfl := hnm nm' hv
      have hr : Hid (look1 ⟨k, n, t, c⟩ L = lookV L nm ⟨k, n, t, c⟩) := by show _ = _; unfold look1; simp only [hv]
      have hz := rKind_full t W2 hts
      obtain ⟨c0, c1, c2, c3, _⟩ := box4 hb2
      rw [Option.isSome_some]
      clear hnm hv
      go_wp2_with fail
      refine hz.mono ?_
      clear hz c0 c1 c2 c3
      rintro e W3 ⟨ka, kb, rfl, _, hk3⟩
      have hK3 := hk2.trans hk3
      have hb3 := hK3.heap HB1.out
      have HB3 := Lib.hid hb3
      have HK3 := Lib.hid hK3
      obtain ⟨c0, c1, c2, c3, _⟩ := box4 hb3
      clear hk2 hk3 hK3 hb2 hb3
      -- what is amiss by itself
      go_upto_region 4 with fail
      obtain ⟨kd, hkd⟩ : ∃ v, kindB t.data.toList = v := ⟨_, rfl⟩
      rw [hkd]
      have HKD := Lib.hid hkd
      clear hkd
      go_cut [11] from 12 (fun v W => v = .bool (!rightF ⟨k, n, t, c⟩) ∧ W3 = W)
      case first =>
        by_cases hc0 : cl = 0
        · subst hc0
          have hcz : Hid (decide (c.len = 0) = true) := by show _ = _; rw [HCL.out]; rfl
          by_cases hn0 : n < 0
          · have hrr : Hid (rightF ⟨k, n, t, c⟩ = false) := by
              show _ = _
              simp only [rightF]
              rw [show decide (n = 0 ∨ n = 1) = false by simp <;> omega, show decide (n = 2) = false by simp <;> omega]
              simp
            go_wp2_with fail
            go_meet
            case rel => exact ⟨by rw [hrr.out]; rfl, rfl⟩
          · by_cases hn2 : 2 < n
            · have hrr : Hid (rightF ⟨k, n, t, c⟩ = false) := by
                show _ = _
                simp only [rightF]
                rw [show decide (n = 0 ∨ n = 1) = false by simp <;> omega, show decide (n = 2) = false by simp <;> omega]
                simp
              go_wp2_with fail
              go_meet
              case rel => exact ⟨by rw [hrr.out]; rfl, rfl⟩
            · by_cases hn3 : n = 2
              · subst hn3
                have hrr : Hid (rightF ⟨k, 2, t, c⟩ = kd) := by
                  show _ = _
                  simp only [rightF]
                  rw [hcz.out, HKD.out]
                  simp
                clear hn0 hn2
                go_wp2_with fail
                go_meet
                case rel => exact ⟨by rw [hrr.out], rfl⟩
              · have z2 : (n == 2) = false := by simp <;> omega
                have z2' : (n != 2) = true := by simp <;> omega
                by_cases ht : t = ⟨#[]⟩
                · subst ht
                  have hrr : Hid (rightF ⟨k, n, ⟨#[]⟩, c⟩ = true) := by
                    show _ = _
                    simp only [rightF]
                    rw [hcz.out, show decide (n = 0 ∨ n = 1) = true by simp <;> omega]
                    simp [ByteArray.size]
                  go_wp2_with fail
                  go_meet
                  case rel => exact ⟨by rw [hrr.out]; rfl, rfl⟩
                · obtain ⟨ht1, ht2, hts0⟩ := txt_some ht
                  have hrr : Hid (rightF ⟨k, n, t, c⟩ = false) := by
                    show _ = _
                    simp only [rightF]
                    rw [hts0, show decide (n = 2) = false by simp <;> omega]
                    simp
                  clear hts0 ht
                  go_wp2_with fail
                  go_meet
                  case rel => exact ⟨by rw [hrr.out]; rfl, rfl⟩
        · have hz0 : ((cl : Int) != 0) = true := by simp <;> omega
          have hrr : Hid (rightF ⟨k, n, t, c⟩ = false) := by
            show _ = _
            simp only [rightF]
            rw [show decide (c.len = 0) = false by rw [HCL.out]; simp; omega]
            rfl
          go_wp2_with fail
          go_meet
          case rel => exact ⟨by rw [hrr.out]; rfl, rfl⟩
      case rest =>
        obtain ⟨rfl, rfl⟩ := hcut
        obtain ⟨bad0, hbad0⟩ : ∃ b, (!rightF ⟨k, n, t, c⟩) = b := ⟨_, rfl⟩
        rw [hbad0]
        have HB0 := Lib.hid hbad0
        have hI3 := HI1.out.keeps HK3.out (fun _ _ h => h)
        have hll := hI3.len
        obtain ⟨hlc1, hlc2⟩ := hI3.cap
        have HLL := Lib.hid hll
        have HI3 := Lib.hid hI3
        clear hbad0 hI3 hll
        go_wp2_with fail
        go_loopg [11, 12, 13] ll (fun m v kn i W => ∃ j : Nat, j + m = ll ∧ i = .int .i64 j ∧ ∃ b kb', v = .bool b ∧ kn = .bool kb' ∧ b = (bad0 || nmBad (L.take j) nm n t) ∧ kb' = nmIn (L.take j) nm ∧ ∃ d, W = W3.drewN d)
        case atStart => exact ⟨0, by omega, rfl, bad0, false, rfl, rfl, by simp [nmBad], by simp [nmIn], 0, rfl⟩
        case round =>
          obtain ⟨j, hjm, rfl, b, kb', rfl, rfl, hb, hkb', d, rfl⟩ := hrel
          have HJ := Lib.hid hjm
          have HB := Lib.hid hb
          have HKB := Lib.hid hkb'
          have hj0 : (0 : Int) ≤ (j : Int) := Int.natCast_nonneg _
          clear hjm hb hkb'
          by_cases hlt : j < ll
          · obtain ⟨⟨nm2, n2, t2⟩, he⟩ : ∃ e, L[j]? = some e := ⟨_, List.getElem?_eq_getElem (by have := HLL.out; omega)⟩
            obtain ⟨g, rfl, _, _, e0, e1, e2⟩ := HI3.out.at_ he
            have hi1 : (j : Int) < (ll : Int) := by omega
            have HE := Lib.hid he
            clear he
            have h1 : Hid (nmIn (L.take (j + 1)) nm = (nmIn (L.take j) nm || decide (nm2 = nm))) := by show _ = _; unfold nmIn; rw [any_take_succ HE.out]
            have h2 : Hid (nmBad (L.take (j + 1)) nm n t = (nmBad (L.take j) nm n t || (decide (nm2 = nm) && decide ((n2, t2) ≠ (n, t))))) := by show _ = _; unfold nmBad; rw [any_take_succ HE.out]
            by_cases hnn : nm2 = nm
            · subst hnn
              cases b with
              | true =>
                go_wp2_with fail
                go_quiet (fail)
                go_wp2_with fail
                go_roundg (gk - 1)
                case measure => have := HJ.out; omega
                case rel => exact ⟨j + 1, by have := HJ.out; omega, by go_num, _, _, rfl, rfl, by rw [h2.out, ← Bool.or_assoc, ← HB.out]; rfl, by rw [h1.out]; simp, _, rfl⟩
              | false =>
                by_cases hnum : n2 = n
                · subst hnum
                  by_cases htx : t2 = t
                  · subst htx
                    go_wp2_with fail
                    go_quiet (fail)
                    go_wp2_with fail
                    go_roundg (gk - 1)
                    case measure => have := HJ.out; omega
                    case rel => exact ⟨j + 1, by have := HJ.out; omega, by go_num, _, _, rfl, rfl, by rw [h2.out, ← Bool.or_assoc, ← HB.out]; simp, by rw [h1.out]; simp, _, rfl⟩
                  · have z := txt_ne htx
                    have HTX := Lib.hid htx
                    clear htx
                    go_wp2_with fail
                    go_quiet (fail)
                    go_wp2_with fail
                    go_roundg (gk - 1)
                    case measure => have := HJ.out; omega
                    case rel => exact ⟨j + 1, by have := HJ.out; omega, by go_num, _, _, rfl, rfl, by rw [h2.out, ← Bool.or_assoc, ← HB.out]; simp [HTX.out], by rw [h1.out]; simp, _, rfl⟩
                · have z := num_ne hnum
                  have HNM := Lib.hid hnum
                  clear hnum
                  go_wp2_with fail
                  go_quiet (fail)
                  go_wp2_with fail
                  go_roundg (gk - 1)
                  case measure => have := HJ.out; omega
                  case rel => exact ⟨j + 1, by have := HJ.out; omega, by go_num, _, _, rfl, rfl, by rw [h2.out, ← Bool.or_assoc, ← HB.out]; simp [HNM.out], by rw [h1.out]; simp, _, rfl⟩
            · have z := txt_ne hnn
              have HNN := Lib.hid hnn
              clear hnn
              go_wp2_with fail
              go_roundg (gk - 1)
              case measure => have := HJ.out; omega
              case rel => exact ⟨j + 1, by have := HJ.out; omega, by go_num, _, _, rfl, rfl, by rw [h2.out, ← Bool.or_assoc, ← HB.out]; simp [HNN.out], by rw [h1.out, ← HKB.out]; simp [HNN.out], _, rfl⟩
          · have hb : Hid (b = !(lookV L nm ⟨k, n, t, c⟩).2) := by
              show b = _
              rw [HB.out, ← HB0.out]
              have : nmBad (L.take j) nm n t = nmBad L nm n t := any_take_all (by have := HLL.out; omega)
              rw [this]
              simp [lookV]
            have hkb : Hid (kb' = nmIn L nm) := by show kb' = _; rw [HKB.out]; exact any_take_all (by have := HLL.out; omega)
            cases kb' with
            | true =>
              have hl1 : Hid ((lookV L nm ⟨k, n, t, c⟩).1 = L) := by show _ = _; unfold lookV; rw [← hkb.out]; rfl
              go_wp2_with fail
              go_ret2
              refine ⟨lp, ll, lc, ?_, ?_, fun b hb => .inl hb, ?_⟩
              · rw [hr.out, hb.out]; simp
              · rw [hr.out, hl1.out]; exact HI3.out.keeps ((Keeps.refl (fun _ => False) W3).drewN d) (fun _ _ h => h)
              · exact ((hK.trans HK3.out).drewN d).mono fun _ h _ => h.elim
            | false =>
              have hl1 : Hid ((lookV L nm ⟨k, n, t, c⟩).1 = L ++ [(nm, n, t)]) := by show _ = _; unfold lookV; rw [← hkb.out]; rfl
              obtain ⟨i0, hi0', hz0, hz1, hz2⟩ := info_parts Try.noteInfo
              have hrow : NotesI D (W3.drewN d) L lp ll lc := HI3.out.keeps ((Keeps.refl (fun _ => False) W3).drewN d) (fun _ _ h => h)
              have hDw : D ≤ (W3.drewN d).heap.size := by have := HK3.out.size; have := HS1.out; simp; omega
              obtain ⟨V, hV⟩ : ∃ V, V = W3.drewN d := ⟨_, rfl⟩
              have hbV : V.heap[w.heap.size]? = some (.cells (four k n t cp cl cc) T (0, 0)) := by rw [hV]; exact HB3.out
              rw [← hV] at hrow hDw ⊢
              have hLV : Hid (L.length = ll) := HLL.out.symm
              have HKV : Hid (Keeps (fun _ => False) W1 V) := by show Keeps _ _ _; rw [hV]; exact HK3.out.drewN d
              have hll5 : L.length ≤ 100000 := by omega
              have HRW := Lib.hid hrow
              obtain ⟨c0, c1, c2, c3, _⟩ := box4 hbV
              clear hV
              go_wp2_with (at_builtin; refine wpList_append_lies _ rfl _ _ _ rfl D TN i0 _ 3 40 Try.underlying147 hi0' hz0 hz1 hz2 rfl (by decide) (.slice lp ll lc) L.length (cellsN L) rfl (World.ownsRow.alloc HRW.out _) ⟨V.heap.size, 0, none⟩ 1 1 [.string nm, .int .i64 n, .string t] rfl rfl (World.news_of_block (cs := #[.string nm, .int .i64 n, .string t]) (t := TN) (fr := (0, 0)) (heap_alloc_new V _)) (by simp [Value.oneCell']) (by omega) (by simp only [maxLen]; omega) (by omega) (by simp; omega) (V.heap.size + 1) (by simp) ?_; intro gg cap w7 hown7 hgrow7 hat7 hlt7)
              clear c0 c1 c2 c3
              go_wp2_with fail
              go_ret2
              refine ⟨some ⟨gg, 0, none⟩, L.length + 1, cap, ?_, ?_, ?_, ?_⟩
              · rw [hr.out, hb.out]; simp
              · rw [hr.out, hl1.out]
                show World.ownsRow _ _ _ _ _ _ _
                rw [cellsN_snoc, List.length_append]
                exact hown7
              · intro b hb'
                have : gg = b := by simpa [Value.ownBlock] using hb'
                subst this
                rcases hat7 with h | h
                · exact .inl h
                · refine .inr ?_
                  have := HKV.out.size
                  have := HS1.out
                  omega
              · exact (((hK.trans HKV.out).alloc _).mono (S' := fun b => (Value.slice lp ll lc).ownBlock = some b) (fun _ h _ => h.elim)).trans' ((Keeps.refl (fun b => (Value.slice lp ll lc).ownBlock = some b) _).grown hgrow7 (fun b hb _ => hb)) (fun _ h _ => h)
    | none =>
      have hr : Hid (look1 ⟨k, n, t, c⟩ L = lookFo c L) := by show _ = _; unfold look1; simp only [hv]
      have HK2 := Lib.hid hk2
      obtain ⟨c0, c1, c2, c3, _⟩ := box4 hb2
      rw [Option.isSome_none]
      clear hnm hv hk2 hb2
      go_wp2_with fail
      clear c0 c1 c2 c3
      go_loopg [1, 14, 15] cl (fun m lv bv i W => ∃ j : Nat, j + m = cl ∧ i = .int .i64 j ∧ ∃ L' lp' ll' lc' b, lv = .slice lp' ll' lc' ∧ bv = .bool b ∧ NotesI D W L' lp' ll' lc' ∧ lookFo c L = lookC b L' (c.drop j) ∧ L'.length + (c.drop j).nodes ≤ 100000 ∧
        (∀ b, (Value.slice lp' ll' lc').ownBlock = some b → (Value.slice lp ll lc).ownBlock = some b ∨ W1.heap.size ≤ b) ∧ Keeps (fun b => (Value.slice lp ll lc).ownBlock = some b) W1 W)
      case atStart => exact ⟨0, by omega, rfl, L, lp, ll, lc, true, rfl, rfl, HI1.out.keeps HK2.out (fun _ _ h => h), rfl, hlen, fun b hb => .inl hb, HK2.out.mono fun _ h _ => h.elim⟩
      case round =>
        obtain ⟨j, hjm, rfl, L', lp', ll', lc', b, rfl, rfl, hI', hC, hln, hob, hkr⟩ := hrel
        have hj0 : (0 : Int) ≤ (j : Int) := Int.natCast_nonneg _
        have hbx : wr.heap[w.heap.size]? = some (.cells (four k n t cp cl cc) T (0, 0)) := (hkr.block _ (by have := HS1.out; omega) (fun h => by have := HOW.out _ h; omega)).trans HB1.out
        obtain ⟨c0, c1, c2, c3, _⟩ := box4 hbx
        have HJ := Lib.hid hjm
        have HC := Lib.hid hC
        have HI' := Lib.hid hI'
        have HOB := Lib.hid hob
        have HKR := Lib.hid hkr
        have HLN := Lib.hid hln
        clear hjm hC hI' hob hkr hln hbx
        by_cases hlt : j < cl
        · cases b with
          | true =>
            have htr := HT1.out.keeps HKR.out (fun b hb h => by have := hA b hb; have := HOW.out b h; omega)
            obtain ⟨kb, ko, rfl, hAk, hkb⟩ := htr.kids.hasAddr (by omega)
            obtain ⟨k1, n1, t1, s1, r1, hdr⟩ := Fo.drop_lt j c (by rw [HCL.out]; exact hlt)
            obtain ⟨cp1, cl1, cc1, hn1⟩ := htr.kids.at_ j hdr hlt
            have hnd : L'.length + s1.nodes + (c.drop (j + 1)).nodes + 1 ≤ 100000 := by
              have h1 := HLN.out
              rw [hdr] at h1
              rw [Fo.drop_step hdr]
              simp only [Fo.nodes] at h1
              omega
            have hz := HIH.out k1 n1 t1 s1 cp1 cl1 cc1 L' lp' ll' lc' wr (by have := Tv.kidNodes hdr; have := HN.out; omega) hn1.tv HI'.out (by have := HKR.out.size; have := HS1.out; omega) (by omega)
            have HNX := Lib.hid (lookC_step (L := L') hdr)
            have hl1 := look1_len ⟨k1, n1, t1, s1⟩ L'
            obtain ⟨⟨L2, b2⟩, hq⟩ : ∃ q, look1 ⟨k1, n1, t1, s1⟩ L' = q := ⟨_, rfl⟩
            rw [hq] at hz HNX hl1
            have a0 := hn1.c0
            have a1 := hn1.c1
            have a2 := hn1.c2
            have a3 := hn1.c3
            have hi1 : (j : Int) < (cl : Int) := by omega
            have HND := Lib.hid hnd
            have HL1 := Lib.hid hl1
            clear hdr hn1 htr hnd hl1 hq
            go_wp2_with fail
            refine hz.mono ?_
            clear hz a0 a1 a2 a3 c0 c1 c2 c3
            rintro e W7 ⟨lp7, ll7, lc7, rfl, hI7, hob7, hk7⟩
            have HI7 := Lib.hid hI7
            have HOB7 := Lib.hid hob7
            have HK7 := Lib.hid hk7
            clear hI7 hob7 hk7
            go_wp2_with fail
            go_roundg (gk - 1)
            case measure => have := HJ.out; omega
            case rel =>
              refine ⟨j + 1, by have := HJ.out; omega, by go_num, L2, lp7, ll7, lc7, b2, rfl, rfl, HI7.out, by rw [HC.out, HNX.out], ?_, ?_, ?_⟩
              · have h1 := HND.out
                have h2 := HL1.out
                have h3 : (⟨k1, n1, t1, s1⟩ : Nd).c.nodes = s1.nodes := rfl
                omega
              · intro x hx
                rcases HOB7.out x hx with h | h
                · exact HOB.out x h
                · exact .inr (by have := HKR.out.size; omega)
              · exact HKR.out.trans' HK7.out (fun x hx hl => by
                  rcases HOB.out x hx with h | h
                  · exact h
                  · omega)
          | false =>
            go_wp2_with fail
            go_ret2
            refine ⟨lp', ll', lc', ?_, ?_, ?_, ?_⟩
            · rw [hr.out, HC.out]; rfl
            · rw [hr.out, HC.out]; exact HI'.out
            · intro x hx
              rcases HOB.out x hx with h | h
              · exact .inl h
              · exact .inr (by have := HS1.out; omega)
            · exact (hK.mono (S' := fun b => (Value.slice lp ll lc).ownBlock = some b) (fun _ h _ => h.elim)).trans' HKR.out (fun x hx hl => hx)
        · have hd : Hid (lookFo c L = (L', b)) := by
            show _ = _
            rw [HC.out, Fo.drop_len_le (by rw [HCL.out]; omega)]
            unfold lookC
            cases b <;> rfl
          go_wp2_with fail
          go_ret2
          refine ⟨lp', ll', lc', ?_, ?_, ?_, ?_⟩
          · rw [hr.out, hd.out]; rfl
          · rw [hr.out, hd.out]; exact HI'.out
          · intro x hx
            rcases HOB.out x hx with h | h
            · exact .inl h
            · exact .inr (by have := HS1.out; omega)
          · exact (hK.mono (S' := fun b => (Value.slice lp ll lc).ownBlock = some b) (fun _ h _ => h.elim)).trans' HKR.out (fun x hx hl => hx)
end Go.Proofs.Ytccoihmibkpedaa
