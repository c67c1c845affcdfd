/-
  tree.Each once more: the blocks of a round's tree are all different.
-/
import Derived.Test.YtnphhibfiklfjaaPkD

import Derived.Test.YtnphhibfiklfjaaPkC

import Derived.Stop.RegionWithIn

import Derived.Lib.Hide

set_option linter.unusedVariables false

set_option linter.unusedSimpArgs false

namespace Go.Proofs.Ytnphhibfiklfjaa

open Go.RowKit

/-- The j-th round's values: Y: their blocks, all different. -/
def EachGN (L : List (List Int × Nd)) (j : Nat) (vs : Array Value) (Y : Nat → Prop) (W : World) : Prop :=
  ∃ p x pv cp cl cc bs, L[j]? = some (p, x) ∧ vs = #[pv, tv x.k x.n x.t cp cl cc] ∧ Row W pv p ∧ Own W x.c cp cl cc bs ∧ szok x.k x.t ∧ Y = (fun b => pv.ownBlock = some b ∨ b ∈ bs) ∧ bs.Nodup
set_option maxRecDepth 100000 in
set_option maxHeartbeats 3200000 in
theorem down_itN {L : List (List Int × Nd)} {lp H0 : Nat} {J : Nat → (Nat → Prop) → World → Prop} {Jx : (Nat → Prop) → World → Prop} {It : Nat → Prop} {w0 : World} (hJ : ∀ j, Stab (J j)) (hJx : Stab Jx)
    (hY : ∀ m j B Y vs W1, j < L.length → (∀ b, B b → b < W1.heap.size) → J j B W1 → EachGN L j vs Y W1 → (∀ b, Y b → ¬ B b ∧ H0 ≤ b ∧ b < W1.heap.size) → H0 ≤ W1.heap.size → Keeps (fun b => ¬ It b) w0 W1 → YieldAt Fence.wide m Try.prog lp vs W1 (RoundR (J (j + 1)) Jx B Y W1)) (yb sb : Nat) (hys : yb ≠ sb) :
    ∀ N, N ≤ 2000 → ∀ (k : ByteArray) (n : Int) (t : ByteArray) (c : Fo) (b o : Nat) (cp : Option Addr) (cl cc : Nat) (xs : List Int) (v : Value) (K B : Nat → Prop) (j0 : Nat) (l2 : List (List Int × Nd)) (W : World),
      c.nodes < N → xs.length + N ≤ 10000 → L.drop j0 = pre xs ⟨k, n, t, c⟩ ++ l2 → H0 ≤ W.heap.size → NodeAt W K b o k n t c cp cl cc → K b → (∀ x, K x → x < W.heap.size) → K yb → K sb → (∀ x, It x → K x) → Keeps (fun b => ¬ It b) w0 W →
      W.cell? ⟨yb, 0, none⟩ = some (.func (.yield lp) #[] #[]) → W.cell? ⟨sb, 0, none⟩ = some (.func (.func 39) #[] #[.pointer (some ⟨yb, 0, none⟩), .pointer (some ⟨sb, 0, none⟩)]) →
      Row W v xs → (∀ g, v.ownBlock = some g → ¬ K g) → (∀ x, B x → x < W.heap.size ∧ ¬ K x ∧ v.ownBlock ≠ some x) → J j0 B W →
      Calls Try.prog 39 #[.pointer (some ⟨b, o, none⟩), v, .pointer (some ⟨yb, 0, none⟩), .pointer (some ⟨sb, 0, none⟩)] W (EachR J Jx (j0 + c.nodes + 1) K v xs W) := by
  intro N
  induction N with
  | zero => intros; omega
  | succ N ih =>
    intro hN1 k n t c b o cp cl cc xs v K B j0 l2 W hcN hxN hL hH0 hn hKb hKlt hKy hKs hItK hw0 hyc hsc hr hvK hB hj
    have hbW := hKlt b hKb
    have hjL : j0 < L.length := by
      have := congrArg List.length hL
      simp [pre_len] at this
      omega
    have hLj : L[j0]? = some (xs, ⟨k, n, t, c⟩) := by
      have := List.getElem?_drop (xs := L) (i := j0) (j := 0)
      rw [hL] at this
      simpa [pre] using this.symm
    -- the round at this node
    have hround : ∀ (pv : Value) (cp' : Option Addr) (cl' cc' : Nat) (bs : List Nat) (W2 : World), Keeps (fun _ => False) W W2 → Row W2 pv xs → (∀ g, pv.ownBlock = some g → W.heap.size ≤ g) → Own W2 c cp' cl' cc' bs → News W2 W.heap.size bs →
        ∃ fn tmps assign body, (Instr.yield lp #[pv, tv k n t cp' cl' cc']).run Try.prog W2 = .ok (.round lp fn tmps assign body) W2 ∧
          RoundIn Fence.wide 0 Try.prog lp fn tmps assign body W2 fun e W3 => ∃ r B1, e = .returned (.bool r) ∧ (r = true → J (j0 + 1) B1 W3) ∧ (r = false → Jx B1 W3) ∧ Keeps (fun x => ¬ K x) W W3 ∧ Row W3 v xs ∧ (∀ x, B1 x → x < W3.heap.size ∧ ¬ K x ∧ v.ownBlock ≠ some x) := by
      intro pv cp' cl' cc' bs W2 hk hpr hpg hown hnews
      have hs := hk.size
      obtain ⟨fn, tmps, assign, body, hy, hR⟩ := hY 0 j0 B (fun b => pv.ownBlock = some b ∨ b ∈ bs) _ W2 hjL (fun x hx => by have := (hB x hx).1; omega) (hJ _ _ _ _ hj (hk.mono fun _ h _ => h.elim)) ⟨xs, ⟨k, n, t, c⟩, pv, cp', cl', cc', bs, hLj, rfl, hpr, hown, hn.size, rfl, hnews.nodup⟩
        (fun x hx => by
          have hx1 : W.heap.size ≤ x ∧ x < W2.heap.size := hx.elim (fun h => ⟨hpg x h, hpr.lt h⟩) (fun h => ⟨hnews.lo x h, hnews.hi x h⟩)
          exact ⟨fun h => by have := (hB x h).1; omega, by omega, hx1.2⟩) (by omega) (hw0.trans' hk (fun _ h _ => h.elim))
      refine ⟨fn, tmps, assign, body, hy, hR.mono ?_⟩
      rintro e W3 ⟨B1, hB1, hk3, hend⟩
      have hY1 : ∀ x, (pv.ownBlock = some x ∨ x ∈ bs) → W.heap.size ≤ x := fun x hx => hx.elim (hpg x) (hnews.lo x)
      have hout : ∀ x, x < W.heap.size → ¬ B x → W3.heap[x]? = W.heap[x]? := fun x hx hnB =>
        (hk3.block x (by omega) (fun h => h.elim hnB (fun h => by have := hY1 x h; omega))).trans (hk.block x hx (fun h => h))
      have rest : Keeps (fun x => ¬ K x) W W3 ∧ Row W3 v xs ∧ (∀ x, B1 x → x < W3.heap.size ∧ ¬ K x ∧ v.ownBlock ≠ some x) := by
       refine ⟨?_, ?_, ?_⟩
       · refine (hk.mono fun _ h _ => h.elim).trans' hk3 (fun x hx hl hKx => ?_)
         rcases hx with h | h
         · exact (hB x h).2.1 hKx
         · have := hY1 x h; omega
       · exact ⟨ownsRow_same hr.own (fun x hx => by
           have hx' : v.ownBlock = some x := by simpa using hx
           exact hout x (hr.lt hx') (fun h => (hB x h).2.2 hx')), hr.nil⟩
       · intro x hx
         obtain ⟨h1, h2⟩ := hB1 x hx
         refine ⟨h2, fun hK => ?_, fun hv => ?_⟩
         · rcases h1 with h | h | h
           · exact (hB x h).2.1 hK
           · have := hY1 x h; have := hKlt x hK; omega
           · have := hKlt x hK; omega
         · rcases h1 with h | h | h
           · exact (hB x h).2.2 hv
           · have := hY1 x h; have := hr.lt hv; omega
           · have := hr.lt hv; omega
      rcases hend with ⟨rfl, h⟩ | ⟨rfl, h⟩
      · exact ⟨true, B1, rfl, fun _ => h, fun h => by simp at h, rest⟩
      · exact ⟨false, B1, rfl, fun h => by simp at h, fun _ => h, rest⟩
    have hclone : ∀ W1, Keeps (fun _ => False) W W1 → Calls Try.prog 40 #[v] W1 (CloneR xs W1) := fun W1 hk => clone_any xs (by omega) v W1 (hr.keeps hk (fun g hg => ⟨hr.lt hg, fun h => h⟩))
    have htwin : ∀ W1, Keeps (fun _ => False) W W1 → Calls Try.prog 37 #[.pointer (some ⟨b, o, none⟩)] W1 (TwinR k n t c W1) := fun W1 hk =>
      twin_any (N + 1) (by omega) k n t c K b o cp cl cc W1 hcN (Nat.lt_of_lt_of_le hbW hk.size) (hn.keeps hk (fun _ _ h => h) hbW (fun h => h))
    have hkd : Keeps (fun _ => False) W W.drew := (Keeps.refl _ W).drew
    have hdd : Fence.wide.depth.isSome = true → 1 ≤ 1 := fun _ => Nat.le_refl _
    go_enter Try.func39, Try.ntmps39
    go_wp2_with fail
    refine (wpIn_wide (n := 1)).1 ?_
    refine wpIn_mono (Q := Exit.then (fun a' W3 => ∃ v8 v9 v10 v11 v12 r B1, a' = { tmps := #[.pointer (some ⟨b, o, none⟩), v, .pointer (some ⟨yb, 0, none⟩), .pointer (some ⟨sb, 0, none⟩), undef, undef, .bool false, undef, v8, v9, v10, v11, v12, .bool r, .bool (!r), undef, undef, undef, undef, undef, undef, undef, undef, undef, undef, undef, undef, undef, undef, undef, undef, undef, undef, undef, undef, undef, undef], defers := [] } ∧
      (r = true → J (j0 + 1) B1 W3) ∧ (r = false → Jx B1 W3) ∧ Keeps (fun x => ¬ K x) W W3 ∧ Row W3 v xs ∧ (∀ x, B1 x → x < W3.heap.size ∧ ¬ K x ∧ v.ownBlock ≠ some x)) (fun _ _ _ => False)) ?_ ?_
    · gi_region_with (first
            | ((try refine ⟨trivial, ?_⟩); gi_at_call 37; refine (callsIn_wide.2 (htwin _ (hkd.trans hkC))).mono ?_; clear htwin; rintro e W2 ⟨cp2, cl2, cc2, bs2, rfl, hoT, hnT, hkT⟩; obtain ⟨fn, tmps, assign, body, hy, hR⟩ := hround pv cp2 cl2 cc2 bs2 W2 ((hkd.trans hkC).trans hkT) (hpr.keeps hkT (fun g hg => ⟨hpr.lt hg, fun h => h⟩)) hpg hoT (hnT.mono hkC.size); have hyc2 := (((hkd.trans hkC).trans hkT).cell (p := ⟨yb, 0, none⟩) (hKlt yb hKy) (fun h => h)).trans hyc)
            | ((try refine ⟨trivial, ?_⟩); gi_at_call 40; refine (callsIn_wide.2 (hclone _ hkd)).mono ?_; clear hclone; rintro e W1 ⟨pv, rfl, hpr, hpg, hkC⟩; have hyc1 := ((hkd.trans hkC).cell (p := ⟨yb, 0, none⟩) (hKlt yb hKy) (fun h => h)).trans hyc)
            | (refine hR.mono ?_; clear hR; rintro e W3 ⟨r, B1, rfl, hj1, hx1, hK3, hr3, hB1⟩))
      all_goals exact ⟨_, _, _, _, _, r, B1, rfl, hj1, hx1, hK3, hr3, hB1⟩
    intro e a' W3 hpost
    cases e
    case ret => exact hpost.elim
    case exit => exact hpost.elim
    case goto => exact hpost.elim
    case panic => exact hpost.elim
    case outgrown => exact hpost.elim
    obtain ⟨v8, v9, v10, v11, v12, r, B1, rfl, hj1, hx1, hK3, hr3, hB1⟩ := hpost
    clear hround hclone htwin hj hB hkd hdd
    cases r with
    | false =>
      have hx2 := hx1 rfl
      clear hx1 hj1
      go_wp2_with fail
      go_ret
      exact ⟨false, B1, rfl, fun h => by simp at h, fun _ => hx2, hK3, hr3, hB1⟩
    | true =>
      have hj2 := hj1 rfl
      clear hx1 hj1
      have hn3 := hn.keeps hK3 (fun x hx h => h hx) hbW (fun h => h hKb)
      have k3 := hn3.c3
      have hs3 := hK3.size
      have hcl : cl ≤ 2000 := by have h1 := Fo.len_nodes c; rw [hn.kids.len] at h1; omega
      go_wp2_with fail
      go_loopg [20] cl (fun m i W1 => ∃ j : Nat, j + m = cl ∧ i = .int .i64 j ∧ ∃ jx B1, L.drop jx = preK xs j (c.drop j) ++ l2 ∧ jx + (c.drop j).nodes = j0 + c.nodes + 1 ∧ J jx B1 W1 ∧ Keeps (fun x => ¬ K x) W W1 ∧ Row W1 v xs ∧ (∀ x, B1 x → x < W1.heap.size ∧ ¬ K x ∧ v.ownBlock ≠ some x))
      case atStart => exact ⟨0, by omega, rfl, j0 + 1, B1, drop_past (p := [(xs, ⟨k, n, t, c⟩)]) (by simpa [pre, Fo.drop] using hL) rfl, by simp only [Fo.drop]; omega, hj2, hK3, hr3, hB1⟩
      case round =>
        obtain ⟨j, hjm, rfl, jx, B2, hLx, hjx, hjr, hKr, hrr, hBr⟩ := hrel
        have HJ := Lib.hid hjm
        clear hjm hK3 hr3 hB1 hn3 k3 hs3 hj2
        have hnr := hn.keeps hKr (fun x hx h => h hx) hbW (fun h => h hKb)
        have k3 := hnr.c3
        have hsz := hKr.size
        have hsc1 := (hKr.cell (p := ⟨sb, 0, none⟩) (hKlt sb hKs) (fun h => h hKs)).trans hsc
        have hyc1 := (hKr.cell (p := ⟨yb, 0, none⟩) (hKlt yb hKy) (fun h => h hKy)).trans hyc
        have hbr : b < wr.heap.size := by omega
        have hsr : sb < wr.heap.size := by have := hKlt sb hKs; omega
        by_cases hlt : j < cl
        · obtain ⟨kb, ko, rfl, hKkb, hkb⟩ := hnr.kids.hasAddr (by omega)
          obtain ⟨k1, n1, t1, s1, r1, hdr⟩ := Fo.drop_lt j c (by rw [hn.kids.len]; exact hlt)
          obtain ⟨cp1, cl1, cc1, hn1⟩ := hnr.kids.at_ j hdr hlt
          have hcN1 : s1.nodes < N := by
            have h1 := Fo.nodes_drop j c
            rw [hdr] at h1
            simp only [Fo.nodes] at h1
            omega
          have hLx2 : L.drop jx = pre (xs ++ [(j : Int)]) ⟨k1, n1, t1, s1⟩ ++ (preK xs (j + 1) (c.drop (j + 1)) ++ l2) := by
            rw [hLx, hdr, preK_cons, Fo.drop_step hdr, List.append_assoc]
          have hnx : (c.drop j).nodes = s1.nodes + 1 + (c.drop (j + 1)).nodes := by rw [Fo.drop_step hdr, hdr]; simp only [Fo.nodes]; omega
          have hchild : ∀ (g cap : Nat) (w2 w3 : World), Keeps (fun _ => False) wr w2 → Row w3 (.slice (some ⟨g, 0, none⟩) (xs.length + 1) cap) (xs ++ [(j : Int)]) → g < w3.heap.size → ((v = .slice (some ⟨g, 0, none⟩) xs.length cap ∧ Keeps (fun b => b = g) w2 w3) ∨ (w2.heap.size ≤ g ∧ Keeps (fun _ => False) w2 w3)) →
              Calls Try.prog 39 #[.pointer (some ⟨kb, ko + j * 4, none⟩), .slice (some ⟨g, 0, none⟩) (xs.length + 1) cap, .pointer (some ⟨yb, 0, none⟩), .pointer (some ⟨sb, 0, none⟩)] w3 fun e W' => ∃ r B', e = .returned (.bool r) ∧
                Hid ((r = true → J (jx + s1.nodes + 1) B' W') ∧ (r = false → Jx B' W') ∧ Keeps (fun x => ¬ K x) W W' ∧ Row W' v xs ∧ (∀ x, B' x → x < W'.heap.size ∧ ¬ K x ∧ v.ownBlock ≠ some x)) := by
            intro g cap w2 w3 hk2 hrow3 hg3 hcase
            have h2s := hk2.size
            rcases hcase with ⟨hve, hk3⟩ | ⟨hgn, hk3⟩
            · have h3s := hk3.size
              have hgv : v.ownBlock = some g := by rw [hve]; rfl
              have hgK := hvK g hgv
              have hk : Keeps (fun b => b = g) wr w3 := (hk2.mono fun _ h _ => h.elim).trans hk3
              have hkK : Keeps (fun x => ¬ K x) W w3 := hKr.trans' hk (fun x hx _ => by rw [hx]; exact hgK)
              refine (ih (by omega) k1 n1 t1 s1 kb (ko + j * 4) cp1 cl1 cc1 (xs ++ [(j : Int)]) _ K B2 jx _ w3 hcN1 (by simp; omega) hLx2 (by omega) (hn1.keeps hk (fun x hx e => hgK (e ▸ hx)) hkb (fun e => hgK (e ▸ hKkb))) hKkb (fun x hx => by have := hKlt x hx; omega) hKy hKs hItK (hw0.trans' hkK (fun x hx _ hi => hx (hItK x hi)))
                ((hk.cell (p := ⟨yb, 0, none⟩) (by have := hKlt yb hKy; show yb < _; omega) (fun e => hgK (e ▸ hKy))).trans hyc1) ((hk.cell (p := ⟨sb, 0, none⟩) hsr (fun e => hgK (e ▸ hKs))).trans hsc1) hrow3 (fun g' hg' => by simp [Value.ownBlock] at hg'; exact hg' ▸ hgK)
                (fun x hx => ⟨by have := (hBr x hx).1; omega, (hBr x hx).2.1, by have := (hBr x hx).2.2; rw [hgv] at this; exact this⟩) (hJ _ _ _ _ hjr (hk.mono fun x hx _ hB => (hBr x hB).2.2 (by rw [hgv, hx])))).mono ?_
              rintro e W' ⟨r, B', rfl, h1, h2, h3, h4, h5⟩
              refine ⟨r, B', rfl, h1, h2, hkK.trans h3, ?_, fun x hx => ⟨(h5 x hx).1, (h5 x hx).2.1, by have := (h5 x hx).2.2; rw [hgv]; exact this⟩⟩
              have hpos : 0 < xs.length := by
                rcases hrr.form with ⟨e1, _⟩ | ⟨_, _, _, _, e1, _⟩
                · rw [hve] at e1; simp at e1
                · exact e1
              rw [hve]
              exact h4.shorter hpos
            · have h3s := hk3.size
              have hk : Keeps (fun _ => False) wr w3 := hk2.trans hk3
              have hkK : Keeps (fun x => ¬ K x) W w3 := hKr.trans' hk (fun x hx _ => hx.elim)
              refine (ih (by omega) k1 n1 t1 s1 kb (ko + j * 4) cp1 cl1 cc1 (xs ++ [(j : Int)]) _ (fun x => K x ∨ v.ownBlock = some x) B2 jx _ w3 hcN1 (by simp; omega) hLx2 (by omega) ((hn1.keeps hk (fun x hx e => e) hkb (fun e => e)).mono (fun _ h => .inl h)) (.inl hKkb)
                (fun x hx => hx.elim (fun h => by have := hKlt x h; omega) (fun h => by have := hrr.lt h; omega)) (.inl hKy) (.inl hKs) (fun x hx => .inl (hItK x hx)) (hw0.trans' hkK (fun x hx _ hi => hx (hItK x hi)))
                ((hk.cell (p := ⟨yb, 0, none⟩) (by have := hKlt yb hKy; show yb < _; omega) (fun e => e)).trans hyc1) ((hk.cell (p := ⟨sb, 0, none⟩) hsr (fun e => e)).trans hsc1) hrow3 (fun g' hg' => by
                  simp [Value.ownBlock] at hg'
                  subst hg'
                  rintro (h | h)
                  · have := hKlt g h; omega
                  · have := hrr.lt h; omega)
                (fun x hx => ⟨by have := (hBr x hx).1; omega, fun h => h.elim (hBr x hx).2.1 (hBr x hx).2.2, fun e => by
                  simp [Value.ownBlock] at e
                  have := (hBr x hx).1
                  omega⟩) (hJ _ _ _ _ hjr (hk.mono fun x hx _ => hx.elim))).mono ?_
              rintro e W' ⟨r, B', rfl, h1, h2, h3, h4, h5⟩
              exact ⟨r, B', rfl, h1, h2, hkK.trans (h3.mono fun x hx _ h => hx (.inl h)), (hrr.keeps hk (fun g' hg' => ⟨hrr.lt hg', fun h => h⟩)).keeps h3 (fun g' hg' => ⟨by have := hrr.lt hg'; omega, fun h => h (.inr hg')⟩),
                fun x hx => ⟨(h5 x hx).1, fun h => (h5 x hx).2.1 (.inl h), fun h => (h5 x hx).2.1 (.inr h)⟩⟩
          have HC := Lib.hid hchild
          have HX := Lib.hid hnx
          have HL := Lib.hid hLx2
          clear hchild hLx2 hLx hnx hn1
          obtain ⟨wa, hwa⟩ : ∃ wa, wa = wr.drew.alloc (.cells #[vint j] 3) := ⟨_, rfl⟩
          have hka : Keeps (fun _ => False) wr wa := by rw [hwa]; exact ((Keeps.refl _ wr).drew).alloc _
          have hra : Row wa v xs := hrr.keeps hka (fun g hg => ⟨hrr.lt hg, fun h => h⟩)
          have hba : wa.heap[wr.heap.size]? = some (.cells #[vint j] 3 (0, 0)) := by rw [hwa]; exact heap_alloc_new wr.drew _
          have sa : wa.cell? ⟨sb, 0, none⟩ = _ := (hka.cell (p := ⟨sb, 0, none⟩) hsr (fun h => h)).trans hsc1
          have ka : wa.cell? ⟨b, o + 3, none⟩ = _ := (hka.cell (p := ⟨b, o + 3, none⟩) hbr (fun h => h)).trans k3
          rw [hwa] at hra hba sa ka hka
          have HKA := Lib.hid hka
          clear hka
          have hi0' : (0 : Int) ≤ (j : Int) := Int.natCast_nonneg _
          have hi1 : (j : Int) < (cl : Int) := by omega
          obtain ⟨i0, hi0, hz0, hz1, hz2⟩ := info_parts Try.intInfo
          have HF : Hid (∀ (g l cap : Nat) (w2 w3 : World) (x : Nat), K x → x < wr.heap.size → Keeps (fun _ => False) wr w2 → ((v = .slice (some ⟨g, 0, none⟩) l cap ∧ Keeps (fun b => b = g) w2 w3) ∨ (w2.heap.size ≤ g ∧ Keeps (fun _ => False) w2 w3)) →
              ∀ {i : Nat} (u : Value), wr.cell? ⟨x, i, none⟩ = some u → w3.cell? ⟨x, i, none⟩ = some u) := Lib.hid (by
            intro g l cap w2 w3 x hKx hx hk2 hcase i u hu
            rcases hcase with ⟨hve, hk3⟩ | ⟨_, hk3⟩
            · exact ((hk2.mono (S' := fun b => b = g) fun _ h _ => h.elim).trans hk3).cell (p := ⟨x, i, none⟩) hx (fun e => hvK g (by rw [hve]; rfl) (e ▸ hKx)) |>.trans hu
            · exact ((hk2.trans hk3).cell (p := ⟨x, i, none⟩) hx (fun e => e)).trans hu)
          go_wp2_with fail
          refine wp_mono (Q := Exit.then (fun a' W' => ∃ x23 x24 x25 x26 x27 x28 x29 x30 x31 x32 x33 r B', a' = { tmps := #[.pointer (some ⟨b, o, none⟩), v, .pointer (some ⟨yb, 0, none⟩), .pointer (some ⟨sb, 0, none⟩), undef, undef, u6, .int .i64 j, v8, v9, v10, v11, v12, .bool true, .bool false, .pointer (some ⟨b, o, none⟩), .pointer (some ⟨b, o, none⟩), .pointer (some ⟨b, o + 3, none⟩), .slice (some ⟨kb, ko, none⟩) cl cc, .int .i64 cl, .int .i64 j, .bool true, .int .i64 j, x23, x24, x25, x26, x27, x28, x29, x30, x31, x32, x33, .bool r, .bool (!r), u36], defers := [] } ∧
            Hid ((r = true → J (jx + s1.nodes + 1) B' W') ∧ (r = false → Jx B' W') ∧ Keeps (fun x => ¬ K x) W W' ∧ Row W' v xs ∧ (∀ x, B' x → x < W'.heap.size ∧ ¬ K x ∧ v.ownBlock ≠ some x))) (fun _ _ _ => False)) ?_ ?_
          · go_region_law (first
              | ((go_simp; go_at_call 39; refine (HC.out g cap _ w3 HKA.out hrow3 hg3 hcase).mono ?_; clear HC; rintro e W' ⟨r, B', rfl, HR⟩))
              | ((refine step_longer (by rfl) _ _ _ (by rfl) i0 _ Try.underlying32 hi0 hz0 hz1 hz2 rfl v xs (by omega) (by rfl) hra j wr.heap.size (by rfl) hba ?_; intro g cap w3 hrow3 hg3 hcase; have s3 : w3.cell? ⟨sb, 0, none⟩ = some (.func (.func 39) #[] #[.pointer (some ⟨yb, 0, none⟩), .pointer (some ⟨sb, 0, none⟩)]) := HF.out g xs.length cap _ w3 sb hKs hsr HKA.out hcase _ hsc1; have k3 : w3.cell? ⟨b, o + 3, none⟩ = some (.slice (some ⟨kb, ko, none⟩) cl cc) := HF.out g xs.length cap _ w3 b hKb hbr HKA.out hcase _ k3)))
            all_goals exact ⟨_, _, _, _, _, _, _, _, _, _, _, r, B', rfl, HR⟩
          intro e a' W' hpost
          cases e
          case ret => exact hpost.elim
          case exit => exact hpost.elim
          case goto => exact hpost.elim
          case panic => exact hpost.elim
          case outgrown => exact hpost.elim
          obtain ⟨x23, x24, x25, x26, x27, x28, x29, x30, x31, x32, x33, r, B', rfl, HR⟩ := hpost
          clear hra hba sa ka HC HKA k3 hsc1
          cases r with
          | false =>
            have H1 := Lib.hid (HR.out.2.1 rfl)
            have H2 := Lib.hid HR.out.2.2
            clear HR
            go_wp2_with fail
            go_ret
            exact ⟨false, B', rfl, fun h => by simp at h, fun _ => H1.out, H2.out⟩
          | true =>
            have H1 := Lib.hid (HR.out.1 rfl)
            have H2 := Lib.hid HR.out.2.2
            clear HR
            go_wp2_with fail
            go_roundg (gk - 1)
            case measure => have := HJ.out; omega
            case rel => exact ⟨j + 1, by have := HJ.out; omega, by go_num, jx + (s1.nodes + 1), B', drop_past HL.out (pre_len _ _), by have := HX.out; omega, H1.out, H2.out⟩
        · have hdn : c.drop j = .nil := Fo.drop_len_le (by rw [hn.kids.len]; omega)
          have HN : jx = j0 + c.nodes + 1 := by rw [hdn] at hjx; simpa [Fo.nodes] using hjx
          rw [HN] at hjr
          clear hdn hLx hjx HN
          go_wp2_with fail
          go_ret
          exact ⟨true, B2, rfl, fun _ => hjr, fun h => by simp at h, hKr, hrr, hBr⟩
set_option maxRecDepth 100000 in
set_option maxHeartbeats 800000 in
theorem each2_itN (k : ByteArray) (n : Int) (t : ByteArray) (c : Fo) (b o : Nat) (cp : Option Addr) (cl cc : Nat) (It : Nat → Prop) (w : World) (hc : c.nodes < 2000) (hn : NodeAt w It b o k n t c cp cl cc) (hb : It b) (hIt : ∀ x, It x → x < w.heap.size) :
    IterOK Try.prog 38 #[.pointer (some ⟨b, o, none⟩)] (pre [] ⟨k, n, t, c⟩).length (EachGN (pre [] ⟨k, n, t, c⟩)) It w := by
  intro m l J Jx B0 W hJ hJx hk hB0 h0 hY
  refine callsIn_wide.2 ?_
  show Calls Try.prog 38 #[.func (.yield l) #[] #[], .pointer (some ⟨b, o, none⟩)] W _
  have hs := hk.size
  have hnW := hn.keeps hk (fun x hx h => h hx) (hIt b hb) (fun h => h hb)
  obtain ⟨W1, hW1⟩ : ∃ W1, W1 = W.alloc (.cells #[.func (.yield l) #[] #[]] 76) := ⟨_, rfl⟩
  obtain ⟨W3, hW3⟩ : ∃ W3, W3 = W1.alloc (.cells #[.func (.func 39) #[] #[.pointer (some ⟨W.heap.size, 0, none⟩), .pointer (some ⟨W.heap.size + 1, 0, none⟩)]] 78) := ⟨_, rfl⟩
  have hs1 : W1.heap.size = W.heap.size + 1 := by rw [hW1]; simp
  have hs3 : W3.heap.size = W.heap.size + 2 := by rw [hW3]; simp [hs1]
  have hK1 : Keeps (fun _ => False) W W1 := by rw [hW1]; exact (Keeps.refl _ W).alloc _
  have hK2 : Keeps (fun _ => False) W1 W3 := by rw [hW3]; exact (Keeps.refl _ W1).alloc _
  have hK : Keeps (fun _ => False) W W3 := hK1.trans hK2
  have hyb1 : W1.heap[W.heap.size]? = some (.cells #[.func (.yield l) #[] #[]] 76 (0, 0)) := by rw [hW1]; exact heap_alloc_new _ _
  have hsb3 : W3.heap[W.heap.size + 1]? = some (.cells #[.func (.func 39) #[] #[.pointer (some ⟨W.heap.size, 0, none⟩), .pointer (some ⟨W.heap.size + 1, 0, none⟩)]] 78 (0, 0)) := by rw [hW3, ← hs1]; exact heap_alloc_new _ _
  have hyb3 := (hK2.block W.heap.size (by omega) (fun h => h)).trans hyb1
  have sc : W3.cell? ⟨W.heap.size + 1, 0, none⟩ = some (.func (.func 39) #[] #[.pointer (some ⟨W.heap.size, 0, none⟩), .pointer (some ⟨W.heap.size + 1, 0, none⟩)]) := by simp [World.cell?, hsb3]
  have yc : W3.cell? ⟨W.heap.size, 0, none⟩ = some (.func (.yield l) #[] #[]) := by simp [World.cell?, hyb3]
  have hItW : ∀ x, It x → x < W.heap.size := fun x hx => by have := hIt x hx; omega
  have hdown := down_itN (L := pre [] ⟨k, n, t, c⟩) (lp := l) (H0 := W.heap.size) (J := J) (Jx := Jx) (It := It) (w0 := w) hJ hJx hY W.heap.size (W.heap.size + 1) (by omega) (c.nodes + 1) (by omega) k n t c b o cp cl cc [] (.slice none 0 0)
    (fun x => It x ∨ x = W.heap.size ∨ x = W.heap.size + 1) B0 0 [] W3 (by omega) (by simp; omega) (by simp) (by omega) ((hnW.keeps hK (fun x _ h => h) (hItW b hb) (fun h => h)).mono (fun _ h => .inl h)) (.inl hb) (fun x hx => hx.elim (fun h => by have := hItW x h; omega) (fun h => by omega)) (.inr (.inl rfl)) (.inr (.inr rfl)) (fun x hx => .inl hx) (hk.trans' hK (fun _ h _ => h.elim)) yc sc
    ⟨World.ownsRow_nil _ _ _ _, fun _ => rfl⟩ (fun g hg => by simp [Value.ownBlock] at hg) (fun x hx => ⟨by have := (hB0 x hx).1; omega, fun h => h.elim (hB0 x hx).2 (fun h => by have := (hB0 x hx).1; omega), by simp [Value.ownBlock]⟩) (hJ _ _ _ _ h0 (hK.mono fun _ h _ => h.elim))
  have HW1 := Lib.hid hW1
  have HW3 := Lib.hid hW3
  have HR := Lib.hid ((pre_len [] ⟨k, n, t, c⟩).trans (show c.nodes + 1 = 0 + c.nodes + 1 by omega))
  clear hW1 hW3 hnW hyb1 hyb3 hsb3 hY hJ hJx hn sc yc
  go_enter Try.func38, Try.ntmps38
  go_wp2_with fail
  rw [← HW1.out, ← HW3.out]
  refine hdown.mono ?_
  clear hdown
  rintro e W4 ⟨r, B', rfl, h1, h2, h3, _, _⟩
  have H1 := Lib.hid h1
  have H2 := Lib.hid h2
  clear h1 h2
  go_wp2_with fail
  go_end0
  refine ⟨⟨_, rfl⟩, ⟨B', ?_⟩, ?_, ?_⟩
  · cases r with
    | true => exact .inl (by rw [HR.out]; exact H1.out rfl)
    | false => exact .inr (H2.out rfl)
  · exact hk.trans ((hK.mono fun _ h _ => h.elim).trans' h3 (fun x hx hl hI => hx (.inl hI)))
  · have := h3.size; omega
/-- What Each hands back. -/
def EachR3 (x : Nd) (w : World) (e : Ending) (w' : World) : Prop :=
  ∃ gf lb It, e = .returned (.func (.func gf) #[] lb) ∧ (∀ args W, (callFunc gf args).run Try.prog W = .ok (.enter gf args) W) ∧ (∀ b, It b → w.heap.size ≤ b ∧ b < w'.heap.size) ∧ Keeps (fun _ => False) w w' ∧ IterOK Try.prog gf lb (eachL x).length (EachGN (eachL x)) It w'

set_option maxHeartbeats 1600000 in
theorem Each_anyN (x : Nd) (cp : Option Addr) (cl cc : Nat) (A : Nat → Prop) (w : World) (h : Tv w A x.k x.t x.c cp cl cc) :
   Calls Try.prog 10 #[tv x.k x.n x.t cp cl cc] w (EachR3 x w) := by
  obtain ⟨w1, hw1⟩ : ∃ w1, w1 = w.alloc (.cells (four x.k x.n x.t cp cl cc) T) := ⟨_, rfl⟩
  have hK : Keeps (fun _ => False) w w1 := by rw [hw1]; exact (Keeps.refl _ w).alloc _
  have hs1 : w1.heap.size = w.heap.size + 1 := by rw [hw1]; simp
  have hbox : w1.heap[w.heap.size]? = some (.cells (four x.k x.n x.t cp cl cc) T (0, 0)) := by rw [hw1]; exact heap_alloc_new _ _
  have hn : NodeAt w1 A w.heap.size 0 x.k x.n x.t x.c cp cl cc := by rw [hw1]; exact h.boxed _
  have hn := hn.top
  have hg := great_any x.k x.n x.t x.c w.heap.size 0 cp cl cc w1 (by omega) hn
  rw [big_small] at hg
  have HW1 := Lib.hid hw1
  clear hw1
  by_cases hsm : x.small
  · have hcn : x.c.nodes < 2000 := by have := hsm.1; simp only [Nd.nodes] at this; omega
    have htw := fun W (hk : Keeps (fun _ => False) w1 W) => twin_any (x.c.nodes + 1) (by omega) x.k x.n x.t x.c _ w.heap.size 0 cp cl cc W (by omega) (by have := hk.size; omega) (hn.keeps hk (fun _ _ h => h) (by omega) (fun h => h))
    simp only [hsm, decide_true, Bool.not_true] at hg
    have hcf : eachL x = pre [] ⟨x.k, x.n, x.t, x.c⟩ := by simp [eachL, hsm]
    have HC := Lib.hid hcf
    clear hcf hsm hn
    go_enter Try.func10, Try.ntmps10
    go_wp2_with fail
    rw [← HW1.out]
    refine hg.mono ?_
    clear hg
    rintro e W ⟨rfl, hk⟩
    go_wp2_with fail
    refine (htw W hk).mono ?_
    clear htw
    rintro e W2 ⟨cp2, cl2, cc2, bs, rfl, ho, hnw, hk2⟩
    have hk' := hk.trans hk2
    have hbox2 := (hk'.block _ (heap_lt hbox) (fun h => h)).trans hbox
    obtain ⟨r0, r1, r2, r3, f0, f1, f2, f3⟩ := box4 hbox2
    have hsW := hk'.size
    obtain ⟨W4, hW4⟩ : ∃ W4, W4 = (((W2.setCell ⟨w.heap.size, 0, none⟩ (.string x.k)).setCell ⟨w.heap.size, 1, none⟩ (.int .i64 x.n)).setCell ⟨w.heap.size, 2, none⟩ (.string x.t)).setCell ⟨w.heap.size, 3, none⟩ (.slice cp2 cl2 cc2) := ⟨_, rfl⟩
    have hk4 : Keeps (fun b => b = w.heap.size) W2 W4 := by rw [hW4]; exact Keeps.four _ _ _ _ _ _
    have hbox4 : W4.heap[w.heap.size]? = some (.cells (four x.k x.n x.t cp2 cl2 cc2) T (0, 0)) := by
      rw [hW4, heap_set (heap_set (heap_set (heap_set hbox2 _ _) _ _) _ _) _ _]
      rfl
    have HW4 := Lib.hid hW4
    clear hW4
    go_wp2_with fail
    rw [← HW4.out]
    go_ret
    obtain ⟨q0, q1, q2, q3, _, _, _, _⟩ := box4 hbox4
    have ho4 := ho.keeps hk4 (fun b hb => ⟨hnw.hi b hb, fun e => by have := hnw.lo b hb; have := hk.size; omega⟩)
    have hkids := ho4.kids (A := fun b => b = w.heap.size ∨ b ∈ bs) (fun b hb => .inr hb)
    have hn4 : NodeAt W4 (fun b => b = w.heap.size ∨ b ∈ bs) w.heap.size 0 x.k x.n x.t x.c cp2 cl2 cc2 := ⟨h.size, hkids.2.1, hkids.2.2.1, q0, q1, q2, q3, hkids.1⟩
    have hs4 := hk4.size
    have hIt : ∀ b, (b = w.heap.size ∨ b ∈ bs) → w.heap.size ≤ b ∧ b < W4.heap.size := fun b hb => by
      rcases hb with rfl | hb
      · omega
      · have h1 := hnw.lo b hb; have h2 := hnw.hi b hb; have := hk.size; omega
    refine ⟨_, _, _, rfl, fun args W => by kernel_rfl, hIt, (hK.trans hk').trans' hk4 (fun b hb hl => by omega), ?_⟩
    rw [HC.out]
    exact each2_itN x.k x.n x.t x.c w.heap.size 0 cp2 cl2 cc2 _ W4 hcn hn4 (.inl rfl) (fun b hb => (hIt b hb).2)
  · simp only [hsm, decide_false, Bool.not_false] at hg
    have hcf : eachL x = [] := by simp [eachL, hsm]
    have HC := Lib.hid hcf
    clear hcf hsm hn
    go_enter Try.func10, Try.ntmps10
    go_wp2_with fail
    rw [← HW1.out]
    refine hg.mono ?_
    clear hg
    rintro e W ⟨rfl, hk⟩
    go_wp2_with fail
    go_ret
    refine ⟨_, _, fun _ => False, rfl, fun args W => by kernel_rfl, fun b hb => hb.elim, hK.trans hk, ?_⟩
    rw [HC.out]
    exact each1_it _ _ _
end Go.Proofs.Ytnphhibfiklfjaa
