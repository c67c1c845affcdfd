/-
  Names of kinds, byte by byte, in plain Lean.
-/
import Derived.Test.YtnphhibfiklfjaaFo
import Derived.Lib.Bytealg
set_option linter.unusedVariables false
set_option linter.unusedSimpArgs false
namespace Go.Proofs.Ytnphhibfiklfjaa
open Go.RowKit

def smallR (r : Int) : Bool := decide (97 ≤ r) && decide (r ≤ 122)
def digitR (r : Int) : Bool := decide (48 ≤ r) && decide (r ≤ 57)
def wordR (r : Int) : Bool := smallR r || digitR r
theorem wordR_high {r : Int} (h : 128 ≤ r) : wordR r = false := by
  simp only [wordR, smallR, digitR, Bool.or_eq_false_iff, Bool.and_eq_false_iff, decide_eq_false_iff_not]
  omega
/-- 1 to so many bytes, the first one such, all of them such. -/
def madeB (l : List UInt8) (most : Int) (p1 p2 : Int → Bool) : Bool :=
  match l with
  | [] => false
  | c :: r => decide ((l.length : Int) ≤ most) && p1 c.toNat && (c :: r).all fun c => p2 c.toNat
def wordB (l : List UInt8) : Bool := madeB l 16 smallR wordR
/-- Is it a kind's name? -/
def kindB (l : List UInt8) : Bool := if Lib.indexByte l 46 < 0 then false else wordB (l.take (Lib.indexByte l 46).toNat) && wordB (l.drop ((Lib.indexByte l 46).toNat + 1))
theorem all_take_succ {l : List UInt8} {p : UInt8 → Bool} {k : Nat} (h : k < l.length) : (l.take (k + 1)).all p = ((l.take k).all p && p l[k]) := by
  rw [List.take_succ_eq_append_getElem h, List.all_append]
  simp
theorem data_at (s : ByteArray) (k : Nat) (h : k < s.size) : s.data.toList[k]'(by simpa using h) = s[k]'h := rfl
end Go.Proofs.Ytnphhibfiklfjaa
