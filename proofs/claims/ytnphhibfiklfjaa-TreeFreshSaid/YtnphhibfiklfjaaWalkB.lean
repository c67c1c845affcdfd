/-
  tree.walk: its walks.
-/
import Derived.Test.YtnphhibfiklfjaaPkA

import Derived.Test.YtnphhibfiklfjaaProg

import Derived.WalkKit

import Derived.WalkSpells

import Derived.WalkLawsBesides

import Derived.Deep.QuietTactic

import Derived.BigQuiet

import Derived.Deep.RegionWith

import Derived.Deep.LoopGhost

import Derived.StillTailTactics

import Derived.Handy

import Derived.Lib.Hide

set_option linter.unusedVariables false

set_option linter.unusedSimpArgs false

namespace Go.Proofs.Ytnphhibfiklfjaa

open Go.RowKit

abbrev downV (h : Nat) : Value := .func (.func 62) #[] #[.pointer (some ⟨h + 1, 0, none⟩), .pointer (some ⟨h + 2, 0, none⟩), .pointer (some ⟨h + 3, 0, none⟩), .pointer (some ⟨h, 0, none⟩), .pointer (some ⟨h + 4, 0, none⟩)]
/-- A function that is told each node: J is what it keeps, in blocks of which S holds. -/
structure See (A S : Nat → Prop) (J : List ByteArray → World → Prop) (h : Nat) (g : Nat) (cap : Array Value) : Prop where
  enters : ∀ args w, (callFunc g args).run Try.prog w = .ok (.enter g args) w
  apart : ∀ b, A b → ¬ S b
  treeLt : ∀ b, A b → b < h
  seeOut : ∀ b, S b → b < h ∨ h + 5 ≤ b
  keeps : ∀ l W W', J l W → Keeps (fun b => ¬ S b) W W' → J l W'
  calls : ∀ l W b o k n t c cp cl cc, l.length < 1024 → h + 5 ≤ W.heap.size → J l W → A b → b < W.heap.size → NodeAt W A b o k n t c cp cl cc → Calls Try.prog g (#[.pointer (some ⟨b, o, none⟩)] ++ cap) W fun e W' => ∃ v, e = .returned v ∧ J (l ++ [k]) W' ∧ Keeps S W W'

def DownR (A S : Nat → Prop) (J : List ByteArray → World → Prop) (h g : Nat) (cap : Array Value) (l : List ByteArray) (W : World) (r : Cnt × Bool × List ByteArray) (e : Ending) (W' : World) : Prop :=
  e = .returned (.bool r.2.1) ∧ Boxes W' h r.1 (.func (.func g) #[] cap) (downV h) ∧ J (l ++ r.2.2) W' ∧ Keeps (fun b => S b ∨ (h < b ∧ b < h + 4)) W W'

set_option maxHeartbeats 800000 in
/-- Where it is too great. -/
theorem down_bad (A S : Nat → Prop) (J : List ByteArray → World → Prop) (h g : Nat) (cap : Array Value) (hsee : See A S J h g cap) (k : ByteArray) (n : Int) (t : ByteArray) (c : Fo) (b o : Nat) (cp : Option Addr) (cl cc : Nat) (d : Int) (q : Cnt) (l : List ByteArray) (w : World)
   (hb : A b) (hn : NodeAt w A b o k n t c cp cl cc) (hB : Boxes w h q (.func (.func g) #[] cap) (downV h)) (hJ : J l w) (hd : 0 ≤ d ∧ d ≤ 65) (hq : q.fit) (hbad : (q.add d t).bad d = true) :
   Calls Try.prog 62 #[.pointer (some ⟨b, o, none⟩), .int .i64 d, .pointer (some ⟨h + 1, 0, none⟩), .pointer (some ⟨h + 2, 0, none⟩), .pointer (some ⟨h + 3, 0, none⟩), .pointer (some ⟨h, 0, none⟩), .pointer (some ⟨h + 4, 0, none⟩)] w (DownR A S J h g cap l w (wlk1 k t c d q)) := by
  have hlt := hsee.treeLt b hb
  obtain ⟨hd0, hd1⟩ := hd
  obtain ⟨hn0, hn1, hy0, hy1⟩ := hq
  have c2 := hn.c2
  have n1 : b ≠ h + 1 := by omega
  have n2 : b ≠ h + 2 := by omega
  have n3 : b ≠ h + 3 := by omega
  have ht := hn.size.1
  obtain ⟨b1, b2, b3, b4, b5, b6, b7, b8, b9⟩ := hB
  have hpost : ∀ W', Boxes W' h (q.add d t) (.func (.func g) #[] cap) (downV h) → Keeps (fun b => h < b ∧ b < h + 4) w W' → DownR A S J h g cap l w (wlk1 k t c d q) (.returned (.bool false)) W' := by
    intro W' h1 h2
    unfold wlk1
    rw [if_pos hbad]
    refine ⟨rfl, h1, ?_, h2.mono fun _ hb' _ => .inr hb'⟩
    rw [List.append_nil]
    exact hsee.keeps _ _ _ hJ (h2.mono fun b' hb' _ hs => by have := hsee.seeOut b' hs; omega)
  have hK : ∀ x y z, Keeps (fun b => h < b ∧ b < h + 4) w (((w.setCell ⟨h + 1, 0, none⟩ x).setCell ⟨h + 2, 0, none⟩ y).setCell ⟨h + 3, 0, none⟩ z).drew := fun x y z =>
    ((((Keeps.refl _ w).setCell (p := ⟨h + 1, 0, none⟩) (fun _ => ⟨by show h < h + 1; omega, by show h + 1 < h + 4; omega⟩) x).setCell (p := ⟨h + 2, 0, none⟩) (fun _ => ⟨by show h < h + 2; omega, by show h + 2 < h + 4; omega⟩) y).setCell (p := ⟨h + 3, 0, none⟩) (fun _ => ⟨by show h < h + 3; omega, by show h + 3 < h + 4; omega⟩) z).drew
  have hBx : ∀ x y z, Boxes (((w.setCell ⟨h + 1, 0, none⟩ (.int .i64 x)).setCell ⟨h + 2, 0, none⟩ (.int .i64 y)).setCell ⟨h + 3, 0, none⟩ (.int .i64 z)).drew h ⟨x, y, z⟩ (.func (.func g) #[] cap) (downV h) := fun x y z =>
    ⟨by simpa using b1, by go_simp, by go_simp, by go_simp, by go_simp, by go_simp, by go_simp, by go_simp, by go_simp⟩
  have hpost2 := fun x y z (e : (⟨x, y, z⟩ : Cnt) = q.add d t) => hpost _ (e ▸ hBx x y z) (hK _ _ _)
  clear hpost hBx hK
  have hbad3 := Cnt.bad_cases hbad
  clear hbad
  have hmx : d ≤ q.depth ∨ q.depth < d := by omega
  rcases hbad3 with g1 | ⟨g1, g2⟩ | ⟨g1, g2, g3⟩ <;> rcases hmx with hmx | hmx
  all_goals
    go_enter Try.func62, Try.ntmps62
    go_wp2_with fail
    go_region
    go_wp2_with fail
    all_goals
      go_ret
      exact hpost2 _ _ _ (by simp only [Cnt.add]; first | rw [if_neg (by omega)] | rw [if_pos (by omega)])

set_option maxRecDepth 100000 in
set_option maxHeartbeats 1600000 in
/-- Every tree. -/
theorem down_any (A S : Nat → Prop) (J : List ByteArray → World → Prop) (h g : Nat) (cap : Array Value) (hsee : See A S J h g cap) : ∀ (N : Nat) (k : ByteArray) (n : Int) (t : ByteArray) (c : Fo) (b o : Nat) (cp : Option Addr) (cl cc : Nat) (d : Int) (q : Cnt) (l : List ByteArray) (w : World), c.nodes < N →
   A b → b < w.heap.size → NodeAt w A b o k n t c cp cl cc → Boxes w h q (.func (.func g) #[] cap) (downV h) → J l w → 0 ≤ d ∧ d ≤ 65 → q.fit → (l.length : Int) = q.nodes →
   Calls Try.prog 62 #[.pointer (some ⟨b, o, none⟩), .int .i64 d, .pointer (some ⟨h + 1, 0, none⟩), .pointer (some ⟨h + 2, 0, none⟩), .pointer (some ⟨h + 3, 0, none⟩), .pointer (some ⟨h, 0, none⟩), .pointer (some ⟨h + 4, 0, none⟩)] w (DownR A S J h g cap l w (wlk1 k t c d q)) := by
  intro N
  induction N with
  | zero => intros; omega
  | succ N ih =>
    intro k n t c b o cp cl cc d q l w hN hb hbs hn hB hJ hd hq hl
    cases hbad : (q.add d t).bad d with
    | true => exact down_bad A S J h g cap hsee k n t c b o cp cl cc d q l w hb hn hB hJ hd hq hbad
    | false =>
      have hq1 := Cnt.add_fit hq hbad
      have hlt := hsee.treeLt b hb
      obtain ⟨hd0, hd1⟩ := hd
      obtain ⟨hn0, hn1, hy0, hy1⟩ := hq
      have c2 := hn.c2
      have n1 : b ≠ h + 1 := by omega
      have n2 : b ≠ h + 2 := by omega
      have n3 : b ≠ h + 3 := by omega
      have ht := hn.size.1
      obtain ⟨b1, b2, b3, b4, b5, b6, b7, b8, b9⟩ := hB
      have hK : ∀ x y z, Keeps (fun b => h < b ∧ b < h + 4) w (((w.setCell ⟨h + 1, 0, none⟩ x).setCell ⟨h + 2, 0, none⟩ y).setCell ⟨h + 3, 0, none⟩ z).drew := fun x y z =>
        ((((Keeps.refl _ w).setCell (p := ⟨h + 1, 0, none⟩) (fun _ => ⟨by show h < h + 1; omega, by show h + 1 < h + 4; omega⟩) x).setCell (p := ⟨h + 2, 0, none⟩) (fun _ => ⟨by show h < h + 2; omega, by show h + 2 < h + 4; omega⟩) y).setCell (p := ⟨h + 3, 0, none⟩) (fun _ => ⟨by show h < h + 3; omega, by show h + 3 < h + 4; omega⟩) z).drew
      have hBx : ∀ x y z, Boxes (((w.setCell ⟨h + 1, 0, none⟩ (.int .i64 x)).setCell ⟨h + 2, 0, none⟩ (.int .i64 y)).setCell ⟨h + 3, 0, none⟩ (.int .i64 z)).drew h ⟨x, y, z⟩ (.func (.func g) #[] cap) (downV h) := fun x y z =>
        ⟨by simpa using b1, by go_simp, by go_simp, by go_simp, by go_simp, by go_simp, by go_simp, by go_simp, by go_simp⟩
      have hen := hsee.enters
      have hll : l.length < 1024 := by have := hq1.2.1; have e1 : (q.add d t).nodes = q.nodes + 1 := rfl; omega
      have HLL := Lib.hid hl
      clear hl
      have hap : ∀ b', A b' → ¬ (S b' ∨ (h < b' ∧ b' < h + 4)) := fun b' h1 h2 => by
        rcases h2 with h2 | h2
        · exact hsee.apart _ h1 h2
        · have := hsee.treeLt _ h1; omega
      -- what stands behind the counting
      have hW : ∀ W, Boxes W h (q.add d t) (.func (.func g) #[] cap) (downV h) → Keeps (fun b => h < b ∧ b < h + 4) w W → Calls Try.prog g (#[.pointer (some ⟨b, o, none⟩)] ++ cap) W fun e W' => ∃ v, e = .returned v ∧ Boxes W' h (q.add d t) (.func (.func g) #[] cap) (downV h) ∧ J (l ++ [k]) W' ∧ Keeps (fun b => S b ∨ (h < b ∧ b < h + 4)) w W' ∧ NodeAt W' A b o k n t c cp cl cc := by
        intro W hBW hKW
        have hJW := hsee.keeps _ _ _ hJ (hKW.mono fun b' hb' _ hs => by have := hsee.seeOut b' hs; omega)
        have hnW := hn.keeps hKW (fun b' hb' hs => by have := hsee.treeLt b' hb'; omega) hbs (fun hs => by omega)
        refine (hsee.calls l W b o k n t c cp cl cc hll (by have := hBW.size; omega) hJW hb (Nat.lt_of_lt_of_le hbs hKW.size) hnW).mono ?_
        rintro e W' ⟨v, rfl, hJ', hK'⟩
        exact ⟨v, rfl, hBW.keeps hK' hsee.seeOut, hJ', (hKW.mono fun _ hb' _ => .inr hb').trans' hK' (fun _ hs _ => .inl hs), hnW.keeps hK' hsee.apart (Nat.lt_of_lt_of_le hbs hKW.size) (hsee.apart b hb)⟩
      have hW2 := fun x y z (e : (⟨x, y, z⟩ : Cnt) = q.add d t) => hW _ (e ▸ hBx x y z) (hK _ _ _)
      clear hW hBx hK
      obtain ⟨g1, g2, g3⟩ := Cnt.good_cases hbad
      have HB := Lib.hid (wlk1_good (k := k) (cs := c) hbad)
      clear hbad
      have hmx : d ≤ q.depth ∨ q.depth < d := by omega
      rcases hmx with hmx | hmx
      all_goals
        go_enter Try.func62, Try.ntmps62
        go_wp2_with fail
        go_region
        go_wp2_with fail
        refine (hW2 _ _ _ (by simp only [Cnt.add]; first | rw [if_neg (by omega)] | rw [if_pos (by omega)])).mono ?_
        clear hW2
        rintro e W ⟨v, rfl, hBW, hJW, hKW, hnW⟩
        have k3 := hnW.c3
        have hlc := hnW.lc
        have hcm := hnW.cm
        go_wp2_with fail
        go_loopg [41] cl (fun m i W => ∃ j : Nat, j + m = cl ∧ i = .int .i64 j ∧ ∃ qj lj, Boxes W h qj (.func (.func g) #[] cap) (downV h) ∧ qj.fit ∧ J (l ++ (k :: lj)) W ∧ Keeps (fun b => S b ∨ (h < b ∧ b < h + 4)) w W ∧ NodeAt W A b o k n t c cp cl cc ∧ Part c (d + 1) (q.add d t) j qj lj ∧ ((l ++ (k :: lj)).length : Int) = qj.nodes)
        case atStart => exact ⟨0, by omega, rfl, q.add d t, [], hBW, hq1, hJW, hKW, hnW, Part.start _ _ _, by have := HLL.out; simp only [List.length_append, List.length_cons, List.length_nil]; show _ = q.nodes + 1; omega⟩
        case round =>
          obtain ⟨j, hjm, rfl, qj, lj, hBj, hqj, hJj, hKj, hnj, hwj, hlj⟩ := hrel
          have HW := Lib.hid hwj
          have HJ := Lib.hid hjm
          have HLJ := Lib.hid hlj
          clear hlj
          clear hwj hBW hJW hKW hnW k3
          have k3 := hnj.c3
          have b6 := hBj.down
          by_cases hlt : j < cl
          · obtain ⟨kb, ko, rfl, hkb, hkbs⟩ := hnj.kids.hasAddr (by omega)
            obtain ⟨k', n', t', c', r', hdr⟩ := Fo.drop_lt j c (by rw [hnj.kids.len]; exact hlt)
            have HD := Lib.hid hdr
            obtain ⟨cp', cl', cc', hn'⟩ := hnj.kids.at_ j hdr hlt
            clear hdr hjm
            go_wp2_with fail
            go_still_tail 9, (by kernel_rfl)
            change wpList _ _ _ _ _ wr.drew
            have hkd : Keeps (fun _ => False) wr wr.drew := (Keeps.refl _ wr).drew
            have hcN : c'.nodes < N := by
              have h1 := Fo.nodes_drop j c
              rw [HD.out] at h1
              simp only [Fo.nodes] at h1
              omega
            have hih := ih k' n' t' c' kb (ko + j * 4) cp' cl' cc' (d + 1) qj (l ++ (k :: lj)) wr.drew hcN hkb hkbs (hn'.keeps hkd (fun _ _ h => h) hkbs (fun h => h)) (hBj.keeps hkd (fun _ h => h.elim)) (hsee.keeps _ _ _ hJj (hkd.mono fun _ h _ => h.elim)) ⟨by omega, by omega⟩ hqj HLJ.out
            obtain ⟨⟨q2, bb, l2⟩, hr⟩ : ∃ r, wlk1 k' t' c' (d + 1) qj = r := ⟨_, rfl⟩
            rw [hr] at hih
            have HR := Lib.hid hr
            clear hr
            go_wp2_with fail
            refine hih.mono ?_
            clear hih
            rintro e W2 ⟨rfl, hB2, hJ2, hK2⟩
            dsimp only at hB2 hJ2
            cases bb with
            | true =>
              go_wp2_with fail
              go_roundg (gk - 1)
              case measure => have := HJ.out; omega
              case rel => exact ⟨j + 1, by have := HJ.out; omega, by go_num, q2, lj ++ l2, hB2, by have := wlk1_fit hqj (by rw [HR.out]); rwa [HR.out] at this, by simpa using hJ2, (hKj.trans' hkd fun _ h _ => h.elim).trans hK2, (hnj.keeps hkd (fun _ _ h => h) (Nat.lt_of_lt_of_le hbs hKj.size) (fun h => h)).keeps hK2 hap (Nat.lt_of_lt_of_le hbs hKj.size) (hap _ hb), HW.out.step HD.out HR.out, by have h1 := wlk1_len (k := k') (t := t') (cs := c') (d := d + 1) (q := qj) (by rw [HR.out]); rw [HR.out] at h1; have h2 := HLJ.out; simp only [List.length_append, List.length_cons] at h1 h2 ⊢; omega⟩
            | false =>
              go_wp2_with fail
              go_ret
              have hs := HW.out.stop HD.out HR.out
              rw [HB.out, hs]
              exact ⟨rfl, hB2, by simpa using hJ2, (hKj.trans' hkd fun _ h _ => h.elim).trans hK2⟩
          · have hjc : j = cl := by have := HJ.out; omega
            go_wp2_with fail
            go_ret
            have hs := HW.out.done (by rw [hnj.kids.len]; omega)
            rw [HB.out, hs]
            exact ⟨rfl, hBj, by simpa using hJj, hKj⟩
end Go.Proofs.Ytnphhibfiklfjaa
