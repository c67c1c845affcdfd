/-
  espalierlaw4.EqNames: its walk.
-/
import Derived.Test.YtccoihmibkpedaaPkD

import Derived.StillTailTactics

import Derived.BigQuiet

import Derived.Deep.LoopGhost

set_option linter.unusedVariables false

set_option linter.unusedSimpArgs false

namespace Go.Proofs.Ytccoihmibkpedaa

open Go.RowKit Go.Maps

theorem ownsRow_keeps {w w' : World} {D n : Nat} {e : TypeId} {v : Value} {xs : List Value} {S : Nat → Prop} (h : w.ownsRow D e 1 v n xs) (hk : Keeps S w w') (hS : ∀ b, v.ownBlock = some b → ¬ S b) : w'.ownsRow D e 1 v n xs := by
  refine ownsRow_same h (fun b hb => ?_)
  cases ho : v.ownBlock with
  | none => rw [ho] at hb; simp at hb
  | some g =>
    rw [ho] at hb
    simp only [Option.toList_some, List.mem_singleton] at hb
    subst hb
    exact hk.block b (h.lt b ho).2 (hS b ho)
theorem ownsRow_open {w : World} {base e size n : Nat} {v : Value} {xs : List Value} (h : w.ownsRow base e size v n xs) : ∃ vp vl vc, v = .slice vp vl vc ∧ vl = n ∧ (0 < vl → ∃ g, vp = some ⟨g, 0, none⟩) := by
  rcases h.2 with ⟨rfl, h0⟩ | ⟨g, cap, cur, rfl, _⟩
  · exact ⟨_, _, _, rfl, h0.symm, fun h => by omega⟩
  · exact ⟨_, _, _, rfl, rfl, fun _ => ⟨g, rfl⟩⟩

theorem take_next_eq {l l' : List ByteArray} {j : Nat} (h : j < l.length) (h' : j < l'.length) (he : l.take j = l'.take j) (hx : l[j] = l'[j]) : l.take (j + 1) = l'.take (j + 1) := by
  rw [List.take_succ_eq_append_getElem h, List.take_succ_eq_append_getElem h', he, hx]
set_option maxRecDepth 100000 in
set_option maxHeartbeats 800000 in
theorem EqNames_any (l l' : List ByteArray) (v v' : Value) (w : World) (h : w.ownsRow 0 9 1 v l.length (l.map .string)) (h' : w.ownsRow 0 9 1 v' l'.length (l'.map .string)) (hsz : l.length ≤ 100000) :
    Calls Try.prog 50 #[v, v'] w fun e w' => e = .returned (.bool (decide (l = l'))) ∧ Keeps (fun _ => False) w w' := by
  obtain ⟨vp, vl, vc, rfl, hvl, hvg⟩ := ownsRow_open h
  obtain ⟨up, ul, uc, rfl, hul, hug⟩ := ownsRow_open h'
  have hvs : (vl : Int) ≤ 100000 := by omega
  have HVL := Lib.hid hvl
  have HUL := Lib.hid hul
  by_cases hne : vl = ul
  · subst hne
    clear hvl hul
    go_enter Try.func50, Try.ntmps50
    go_wp2_with fail
    go_loopg [5] vl (fun m i W' => ∃ (j : Nat), j + m = vl ∧ i = .int .i64 j ∧ l.take j = l'.take j ∧ Keeps (fun _ => False) w W')
    case atStart => exact ⟨0, by omega, rfl, by simp, Keeps.refl _ _⟩
    case round =>
      obtain ⟨j, hjm, rfl, hI, hkr⟩ := hrel
      have HJ := Lib.hid hjm
      have HIr := Lib.hid hI
      have HKR := Lib.hid hkr
      have hr := ownsRow_keeps h hkr (fun _ _ h => h)
      have hr' := ownsRow_keeps h' hkr (fun _ _ h => h)
      clear hjm hI hkr
      by_cases hlt : j < vl
      · obtain ⟨gb, rfl⟩ := hvg (by omega)
        obtain ⟨gb', rfl⟩ := hug (by omega)
        rw [← HVL.out] at hr
        rw [← HUL.out] at hr'
        have hx := hr.cellAt j (by omega)
        have hx' := hr'.cellAt j (by omega)
        rw [List.getElem?_map, List.getElem?_eq_getElem (by rw [← HVL.out]; exact hlt)] at hx
        rw [List.getElem?_map, List.getElem?_eq_getElem (by rw [← HUL.out]; exact hlt)] at hx'
        have HNX := Lib.hid (take_next_eq (l := l) (l' := l') (j := j) (by rw [← HVL.out]; exact hlt) (by rw [← HUL.out]; exact hlt) HIr.out)
        have hdiff : l[j]'(by rw [← HVL.out]; exact hlt) ≠ l'[j]'(by rw [← HUL.out]; exact hlt) → l ≠ l' := fun h e => h (by simp [e])
        obtain ⟨x, hxx⟩ : ∃ x, l[j]'(by rw [← HVL.out]; exact hlt) = x := ⟨_, rfl⟩
        obtain ⟨x', hxx'⟩ : ∃ x, l'[j]'(by rw [← HUL.out]; exact hlt) = x := ⟨_, rfl⟩
        rw [hxx] at hx hdiff
        rw [hxx'] at hx' hdiff
        simp only [hxx, hxx'] at HNX
        have hx : wr.cell? ⟨gb, j, none⟩ = some (.string x) := hx
        have hx' : wr.cell? ⟨gb', j, none⟩ = some (.string x') := hx'
        have hi0' : (0 : Int) ≤ (j : Int) := Int.natCast_nonneg _
        have hi1 : (j : Int) < (vl : Int) := by omega
        clear hxx hxx' hr hr'
        by_cases he : x = x'
        · subst he
          have HN := Lib.hid (HNX.out rfl)
          clear hdiff HNX
          go_wp2_with fail
          go_quiet (fail)
          go_wp2_with fail
          go_roundg (gk - 1)
          case measure => have := HJ.out; omega
          case rel => exact ⟨j + 1, by have := HJ.out; omega, by go_num, HN.out, HKR.out.drewN _⟩
        · have hN := Lib.hid (hdiff he)
          have h1 := txt_ne he
          clear hdiff HNX he
          go_wp2_with fail
          go_quiet (fail)
          go_wp2_with fail
          go_ret
          exact ⟨by rw [decide_eq_false hN.out]; rfl, HKR.out.drewN _⟩
      · have hall : l = l' := by
          have h1 := HIr.out
          rwa [List.take_of_length_le (by have := HVL.out; omega), List.take_of_length_le (by have := HUL.out; omega)] at h1
        have HALL := Lib.hid hall
        clear hall hr hr'
        go_wp2_with fail
        go_ret
        exact ⟨by rw [decide_eq_true HALL.out]; rfl, HKR.out⟩
  · have hd : l ≠ l' := fun e => hne (by rw [hvl, hul, e])
    have hni : ((vl : Int) == (ul : Int)) = false := by simp; omega
    have HD := Lib.hid hd
    clear hvl hul hd
    go_enter Try.func50, Try.ntmps50
    go_wp2_with fail
    go_ret
    exact ⟨by rw [decide_eq_false HD.out]; rfl, Keeps.refl _ _⟩
end Go.Proofs.Ytccoihmibkpedaa
