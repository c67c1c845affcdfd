/-
  tree.find: its walk.
-/
import Derived.Test.YtnphhibfiklfjaaTwin
import Derived.Test.YtnphhibfiklfjaaPath
set_option linter.unusedVariables false
set_option linter.unusedSimpArgs false
namespace Go.Proofs.Ytnphhibfiklfjaa
open Go.RowKit

def FindR (w : World) (A : Nat → Prop) (path : List Int) (x : Nd) (b o : Nat) (e : Ending) (w' : World) : Prop :=
  w = w' ∧ ((sub path x = none ∧ e = .returned (.pointer none)) ∨ ∃ b' o' y cp cl cc, sub path x = some y ∧ e = .returned (.pointer (some ⟨b', o', none⟩)) ∧ Nav w path b o b' o' ∧ NodeAt w A b' o' y.k y.n y.t y.c cp cl cc ∧ (b' = b ∨ A b'))

set_option maxRecDepth 100000 in
set_option maxHeartbeats 800000 in
theorem find_any (path : List Int) (x : Nd) (A A' : Nat → Prop) (b o : Nat) (cp : Option Addr) (cl cc : Nat) (pp : Option Addr) (pl pc : Nat) (w : World) (hn : NodeAt w A b o x.k x.n x.t x.c cp cl cc) (hp : Ints w A' path pp pl) :
   Calls Try.prog 41 #[.pointer (some ⟨b, o, none⟩), .slice pp pl pc] w (FindR w A path x b o) := by
  have hple := hp.le
  go_enter Try.func41, Try.ntmps41
  go_wp2_with fail
  go_loopg [0, 9] pl (fun m v i W => w = W ∧ ∃ j : Nat, j + m = pl ∧ i = .int .i64 j ∧ ∃ b1 o1 y cp1 cl1 cc1, v = .pointer (some ⟨b1, o1, none⟩) ∧ sub (path.take j) x = some y ∧ Nav w (path.take j) b o b1 o1 ∧ NodeAt w A b1 o1 y.k y.n y.t y.c cp1 cl1 cc1 ∧ (b1 = b ∨ A b1))
  case atStart => exact ⟨rfl, 0, by omega, rfl, b, o, x, cp, cl, cc, rfl, rfl, ⟨rfl, rfl⟩, hn, .inl rfl⟩
  case round =>
    obtain ⟨rfl, j, hjm, rfl, b1, o1, y, cp1, cl1, cc1, rfl, hsub, hnav, hny, hbb⟩ := hrel
    have HJ := Lib.hid hjm
    have HS := Lib.hid hsub
    have HN := Lib.hid hnav
    have HBB := Lib.hid hbb
    clear hjm hsub hnav hbb
    have k3 := hny.c3
    have hlc := hny.lc
    have hcm := hny.cm
    by_cases hlt : j < pl
    · obtain ⟨i, r, hd, hd1, pb, po, rfl, _, hpb⟩ := hp.dropLt hlt
      have hpc := hp.at_ hd
      have htk : path.take (j + 1) = path.take j ++ [i] := by
        have : path[j]? = some i := by
          have := List.getElem?_drop (xs := path) (i := j) (j := 0)
          rw [hd] at this
          simpa using this.symm
        rw [List.take_add_one, this]
        rfl
      have HT := Lib.hid htk
      have HD := Lib.hid hd
      have hpost : y.c.kid i = none → FindR w A path x b o (.returned (.pointer none)) w := fun h => by
        refine ⟨rfl, .inl ⟨?_, rfl⟩⟩
        rw [← List.take_append_drop (j + 1) path, htk]
        exact sub_none (by rw [sub_snoc, HS.out]; exact h)
      clear hd hd1 htk
      by_cases hi0 : i < 0
      · have hk : y.c.kid i = none := by simp [Fo.kid, hi0]
        have hpost := hpost hk
        clear hk
        go_wp2_with fail
        go_ret
        exact hpost
      · have hi0' : 0 ≤ i := by omega
        by_cases hi1 : (cl1 : Int) ≤ i
        · have hk : y.c.kid i = none := by
            rw [Fo.kid, if_neg hi0]
            exact Fo.at?_none (by rw [hny.kids.len]; omega)
          have hpost := hpost hk
          clear hk
          go_wp2_with fail
          go_ret
          exact hpost
        · have hi1' : i < (cl1 : Int) := by omega
          obtain ⟨m, rfl⟩ := Int.eq_ofNat_of_zero_le hi0'
          have hm : m < cl1 := by omega
          obtain ⟨kb, ko, rfl, hkb, hkbs⟩ := hny.kids.hasAddr (by omega)
          obtain ⟨k1, n1, t1, s1, r1, hdr⟩ := Fo.drop_lt m y.c (by rw [hny.kids.len]; exact hm)
          obtain ⟨cp2, cl2, cc2, hn2⟩ := hny.kids.at_ m hdr hm
          have hk : y.c.kid m = some ⟨k1, n1, t1, s1⟩ := by
            rw [Fo.kid, if_neg (by omega)]
            exact Fo.at?_drop hdr
          have HK := Lib.hid hk
          clear hpost hdr hk
          go_wp2_with fail
          go_roundg (gk - 1)
          case measure => have := HJ.out; omega
          case rel =>
            refine ⟨rfl, j + 1, by have := HJ.out; omega, by go_num, kb, ko + m * 4, ⟨k1, n1, t1, s1⟩, cp2, cl2, cc2, rfl, ?_, ?_, hn2, .inr hkb⟩
            · rw [HT.out, sub_snoc, HS.out]
              exact HK.out
            · rw [HT.out]
              exact HN.out.snoc k3 (by omega) (by simpa using hm)
    · have hjp : path.take j = path := List.take_of_length_le (by rw [hp.len]; omega)
      have HP := Lib.hid hjp
      clear hjp
      go_wp2_with fail
      go_ret
      refine ⟨rfl, .inr ⟨b1, o1, y, cp1, cl1, cc1, ?_, rfl, ?_, hny, HBB.out⟩⟩
      · have := HS.out; rwa [HP.out] at this
      · have := HN.out; rwa [HP.out] at this
end Go.Proofs.Ytnphhibfiklfjaa
