/-
  A tree put in the place of another one, in memory of its own.
-/
import Derived.Test.YtnphhibfiklfjaaPath
import Derived.Test.YtnphhibfiklfjaaWlk2
set_option linter.unusedVariables false
set_option linter.unusedSimpArgs false
namespace Go.Proofs.Ytnphhibfiklfjaa
open Go.RowKit

namespace Fo
def set : Fo → Nat → Nd → Fo
  | nil, _, _ => nil
  | cons _ _ _ _ r, 0, x => cons x.k x.n x.t x.c r
  | cons k n t c r, i + 1, x => cons k n t c (r.set i x)
theorem len_set (f : Fo) (i : Nat) (x : Nd) : (f.set i x).len = f.len := by
  induction f generalizing i with
  | nil => rfl
  | cons k n t c r _ ih => cases i with
    | zero => rfl
    | succ i => simp [set, len, ih]
end Fo
/-- u in the place of what lies at the path. -/
def put : List Int → Nd → Nd → Nd
  | [], _, u => u
  | i :: r, x, u => match x.c.kid i with
    | some y => ⟨x.k, x.n, x.t, x.c.set i.toNat (put r y u)⟩
    | none => x

abbrev set4 (w : World) (b o : Nat) (v0 v1 v2 v3 : Value) : World := (((w.setCell ⟨b, o, none⟩ v0).setCell ⟨b, o + 1, none⟩ v1).setCell ⟨b, o + 2, none⟩ v2).setCell ⟨b, o + 3, none⟩ v3
theorem set4_heap {w : World} {b o : Nat} {v0 v1 v2 v3 : Value} {g : Nat} (h : g ≠ b) : (set4 w b o v0 v1 v2 v3).heap[g]? = w.heap[g]? := by
  rw [Below.heap_setCell _ _ _ _ h, Below.heap_setCell _ _ _ _ h, Below.heap_setCell _ _ _ _ h, Below.heap_setCell _ _ _ _ h]
theorem set4_size {w : World} {b o : Nat} {v0 v1 v2 v3 : Value} : (set4 w b o v0 v1 v2 v3).heap.size = w.heap.size := by simp [World.setCell]
theorem setCell_shape {w : World} {g : Nat} {cur : Array Value} {T : TypeId} (h : w.heap[g]? = some (.cells cur T (0, 0))) (a : Addr) (v : Value) : ∃ cur', (w.setCell a v).heap[g]? = some (.cells cur' T (0, 0)) ∧ cur'.size = cur.size := by
  by_cases hg : g = a.block
  · subst hg
    refine ⟨if a.spot.isSome then cur else cur.setIfInBounds a.off v, ?_, ?_⟩
    · simp [World.setCell, Array.getElem?_modify, h]
    · split <;> simp
  · exact ⟨cur, by rw [Below.heap_setCell _ _ _ _ hg]; exact h, rfl⟩
theorem set4_shape {w : World} {b o : Nat} {v0 v1 v2 v3 : Value} {g : Nat} {cur : Array Value} {T : TypeId} (h : w.heap[g]? = some (.cells cur T (0, 0))) : ∃ cur', (set4 w b o v0 v1 v2 v3).heap[g]? = some (.cells cur' T (0, 0)) ∧ cur'.size = cur.size := by
  obtain ⟨c1, h1, s1⟩ := setCell_shape h ⟨b, o, none⟩ v0
  obtain ⟨c2, h2, s2⟩ := setCell_shape h1 ⟨b, o + 1, none⟩ v1
  obtain ⟨c3, h3, s3⟩ := setCell_shape h2 ⟨b, o + 2, none⟩ v2
  obtain ⟨c4, h4, s4⟩ := setCell_shape h3 ⟨b, o + 3, none⟩ v3
  exact ⟨c4, h4, by omega⟩
theorem cell_other {w : World} {b o o' : Nat} {v : Value} (h : o ≠ o') : (w.setCell ⟨b, o, none⟩ v).cell? ⟨b, o', none⟩ = w.cell? ⟨b, o', none⟩ := World.cell?_setCell_other _ _ _ _ (by simp [h])
theorem set4_other {w : World} {b o : Nat} {v0 v1 v2 v3 : Value} {x : Nat} (h : x < o ∨ o + 4 ≤ x) : (set4 w b o v0 v1 v2 v3).cell? ⟨b, x, none⟩ = w.cell? ⟨b, x, none⟩ := by
  rw [cell_other (by omega), cell_other (by omega), cell_other (by omega), cell_other (by omega)]
theorem cell_same {w : World} {b o : Nat} {u v : Value} (h : w.cell? ⟨b, o, none⟩ = some u) : (w.setCell ⟨b, o, none⟩ v).cell? ⟨b, o, none⟩ = some v := World.cell?_setCell_same _ _ _ h
theorem set4_same {w : World} {b o : Nat} {v0 v1 v2 v3 u0 u1 u2 u3 : Value} (h0 : w.cell? ⟨b, o, none⟩ = some u0) (h1 : w.cell? ⟨b, o + 1, none⟩ = some u1) (h2 : w.cell? ⟨b, o + 2, none⟩ = some u2) (h3 : w.cell? ⟨b, o + 3, none⟩ = some u3) :
    (set4 w b o v0 v1 v2 v3).cell? ⟨b, o, none⟩ = some v0 ∧ (set4 w b o v0 v1 v2 v3).cell? ⟨b, o + 1, none⟩ = some v1 ∧ (set4 w b o v0 v1 v2 v3).cell? ⟨b, o + 2, none⟩ = some v2 ∧ (set4 w b o v0 v1 v2 v3).cell? ⟨b, o + 3, none⟩ = some v3 := by
  refine ⟨?_, ?_, ?_, ?_⟩
  · rw [cell_other (by omega), cell_other (by omega), cell_other (by omega)]; exact cell_same h0
  · rw [cell_other (by omega), cell_other (by omega)]; exact cell_same ((cell_other (by omega)).trans h1)
  · rw [cell_other (by omega)]; exact cell_same ((cell_other (by omega)).trans ((cell_other (by omega)).trans h2))
  · exact cell_same ((cell_other (by omega)).trans ((cell_other (by omega)).trans ((cell_other (by omega)).trans h3)))
/-- The i-th row's four cells and all that lies beneath, and how another one takes their place. -/
theorem RowRep.focus {w : World} : ∀ {i : Nat} {f : Fo} {xs : List Value} {bs : List Nat} {k n t c r}, RowRep w f xs bs → f.drop i = .cons k n t c r →
    ∃ pre post cp cl cc bsL bsM bsR, xs = pre ++ [.string k, .int .i64 n, .string t, .slice cp cl cc] ++ post ∧ pre.length = i * 4 ∧ bs = bsL ++ bsM ++ bsR ∧ Own w c cp cl cc bsM ∧ szok k t ∧
      ∀ (w' : World) (x : Nd) (cp' : Option Addr) (cl' cc' : Nat) (bsN : List Nat), (∀ b ∈ bsL ++ bsR, w'.heap[b]? = w.heap[b]?) → Own w' x.c cp' cl' cc' bsN → szok x.k x.t →
        RowRep w' (f.set i x) (pre ++ [.string x.k, .int .i64 x.n, .string x.t, .slice cp' cl' cc'] ++ post) (bsL ++ bsN ++ bsR)
  | i, .nil, _, _, _, _, _, _, _, _, hd => by rw [Fo.drop_nil] at hd; simp at hd
  | 0, .cons k n t c r, _, _, _, _, _, _, _, ⟨cp, cl, cc, ys, bs1, xs', bs2, hx, hbs, ht, ho, hc, hr⟩, hd => by
    simp only [Fo.drop] at hd
    injection hd with e1 e2 e3 e4 e5
    subst e1 e2 e3 e4 e5
    refine ⟨[], xs', cp, cl, cc, [], sb cp cl cc ++ bs1, bs2, by rw [hx]; rfl, rfl, by rw [hbs]; simp, ⟨ys, bs1, ho, hc, rfl⟩, ht, ?_⟩
    intro w' x cp' cl' cc' bsN hb ⟨ys', bs1', h1, h2, h3⟩ hs
    exact ⟨cp', cl', cc', ys', bs1', xs', bs2, rfl, by rw [h3]; simp, hs, h1, h2, hr.same (fun b hm => hb b (by simp [hm]))⟩
  | i + 1, .cons k0 n0 t0 c0 r0, _, _, k, n, t, c, r, ⟨cp0, cl0, cc0, ys, bs1, xs', bs2, hx, hbs, ht, ho, hc, hr⟩, hd => by
    obtain ⟨pre, post, cp, cl, cc, bsL, bsM, bsR, g1, g2, g3, g4, g5, g6⟩ := RowRep.focus (i := i) hr hd
    refine ⟨.string k0 :: .int .i64 n0 :: .string t0 :: .slice cp0 cl0 cc0 :: pre, post, cp, cl, cc, sb cp0 cl0 cc0 ++ bs1 ++ bsL, bsM, bsR, by rw [hx, g1]; rfl, by simp [g2, Nat.succ_mul], by rw [hbs, g3]; simp [List.append_assoc], g4, g5, ?_⟩
    intro w' x cp' cl' cc' bsN hb hown hs
    have h1 : ∀ b ∈ bsL ++ bsR, w'.heap[b]? = w.heap[b]? := fun b hm => hb b (by simp only [List.mem_append] at hm ⊢; rcases hm with hm | hm <;> simp [hm])
    refine ⟨cp0, cl0, cc0, ys, bs1, _, _, rfl, by simp [List.append_assoc], ht, ownsRow_same ho (fun b hm => hb b (by simp only [List.mem_append]; exact .inl (.inl (.inl hm)))), hc.same (fun b hm => hb b (by simp only [List.mem_append]; exact .inl (.inl (.inr hm)))), g6 w' x cp' cl' cc' bsN h1 hown hs⟩

/-- What a store of a whole tree at the end of the way makes of the tree that it lies in. -/
theorem put_mem (u : Nd) (up : Option Addr) (ul uc : Nat) (us : List Nat) (hut : szok u.k u.t) : ∀ (path : List Int) (x y : Nd) (w : World) (b o : Nat) (cp : Option Addr) (cl cc : Nat) (bs : List Nat) (b' o' : Nat),
    w.cell? ⟨b, o, none⟩ = some (.string x.k) → w.cell? ⟨b, o + 1, none⟩ = some (.int .i64 x.n) → w.cell? ⟨b, o + 2, none⟩ = some (.string x.t) → w.cell? ⟨b, o + 3, none⟩ = some (.slice cp cl cc) → Own w x.c cp cl cc bs → szok x.k x.t →
    b ∉ bs → bs.Nodup → Own w u.c up ul uc us → us.Nodup → (∀ z ∈ us, z ∉ bs ∧ z ≠ b) → Nav w path b o b' o' → sub path x = some y →
    ∃ cp' cl' cc' bs', (b' = b ∨ b' ∈ bs) ∧
      (set4 w b' o' (.string u.k) (.int .i64 u.n) (.string u.t) (.slice up ul uc)).cell? ⟨b, o, none⟩ = some (.string (put path x u).k) ∧
      (set4 w b' o' (.string u.k) (.int .i64 u.n) (.string u.t) (.slice up ul uc)).cell? ⟨b, o + 1, none⟩ = some (.int .i64 (put path x u).n) ∧
      (set4 w b' o' (.string u.k) (.int .i64 u.n) (.string u.t) (.slice up ul uc)).cell? ⟨b, o + 2, none⟩ = some (.string (put path x u).t) ∧
      (set4 w b' o' (.string u.k) (.int .i64 u.n) (.string u.t) (.slice up ul uc)).cell? ⟨b, o + 3, none⟩ = some (.slice cp' cl' cc') ∧
      (∀ z, z < o ∨ o + 4 ≤ z → (set4 w b' o' (.string u.k) (.int .i64 u.n) (.string u.t) (.slice up ul uc)).cell? ⟨b, z, none⟩ = w.cell? ⟨b, z, none⟩) ∧
      Own (set4 w b' o' (.string u.k) (.int .i64 u.n) (.string u.t) (.slice up ul uc)) (put path x u).c cp' cl' cc' bs' ∧ szok (put path x u).k (put path x u).t ∧ bs'.Nodup ∧ (∀ z ∈ bs', z ∈ bs ∨ z ∈ us)
  | [], x, y, w, b, o, cp, cl, cc, bs, b', o', c0, c1, c2, c3, ho, hxt, hb, hnd, hou, hund, hdis, ⟨e1, e2⟩, hs => by
    subst e1 e2
    obtain ⟨s0, s1, s2, s3⟩ := set4_same (v0 := .string u.k) (v1 := .int .i64 u.n) (v2 := .string u.t) (v3 := .slice up ul uc) c0 c1 c2 c3
    exact ⟨up, ul, uc, us, .inl rfl, s0, s1, s2, s3, fun z hz => set4_other hz, hou.same (fun z hz => set4_heap (hdis z hz).2), hut, hund, fun z hz => .inr hz⟩
  | i :: r, x, y, w, b, o, cp, cl, cc, bs, b', o', c0, c1, c2, c3, ho, hxt, hb, hnd, hou, hund, hdis, ⟨kb, ko, cl1, cc1, hc3, hi0, hil, hnav⟩, hs => by
    rw [c3] at hc3
    simp only [Option.some.injEq, Value.slice.injEq] at hc3
    obtain ⟨rfl, rfl, rfl⟩ := hc3
    obtain ⟨ys, bs1, hrow, hrep, hbs⟩ := ho
    rcases hrow.2 with ⟨he, _⟩ | ⟨g, cap, cur, he, _, hheap, hle, hcap, hsz, htake⟩
    · simp at he
    simp only [Value.slice.injEq, Option.some.injEq, Addr.mk.injEq, and_true] at he
    obtain ⟨⟨rfl, rfl⟩, rfl, rfl⟩ := he
    have hsb : sb (some ⟨kb, 0, none⟩) x.c.len cc = [kb] := rfl
    rw [hsb] at hbs
    obtain ⟨k1, n1, t1, s1, r1, hd⟩ := Fo.drop_lt i.toNat x.c hil
    obtain ⟨pre, post, cp1, cl1, cc1, bsL, bsM, bsR, hys, hpre, hbs1, hown1, ht1, hset⟩ := hrep.focus hd
    have hkid : x.c.kid i = some ⟨k1, n1, t1, s1⟩ := by
      rw [Fo.kid, if_neg (by omega)]
      exact Fo.at?_drop hd
    have hsub : sub r ⟨k1, n1, t1, s1⟩ = some y := by
      simp only [sub, hkid] at hs
      exact hs
    have hput : put (i :: r) x u = ⟨x.k, x.n, x.t, x.c.set i.toNat (put r ⟨k1, n1, t1, s1⟩ u)⟩ := by
      simp only [put, hkid]
    have hbs : bs = kb :: bs1 := hbs
    subst hbs hbs1
    -- what is disjoint
    have hndg := List.nodup_cons.1 hnd
    have hnd1 := List.nodup_append.1 hndg.2
    have hnd2 := List.nodup_append.1 hnd1.1
    have hgM : kb ∉ bsM := fun h => hndg.1 (by simp [h])
    have hcell : ∀ j v, ys[j]? = some v → w.cell? ⟨kb, j, none⟩ = some v := fun j v hv => by
      have := hrow.cells (g := kb) rfl j v hv
      rwa [add0] at this
    have hlen4 : ∀ j v, [Value.string k1, .int .i64 n1, .string t1, .slice cp1 cl1 cc1][j]? = some v → w.cell? ⟨kb, i.toNat * 4 + j, none⟩ = some v := fun j v hv => by
      refine hcell _ v ?_
      rw [hys, List.append_assoc, List.getElem?_append_right (by omega), hpre, show i.toNat * 4 + j - i.toNat * 4 = j by omega]
      have hj : j < 4 := by
        rcases Nat.lt_or_ge j 4 with h | h
        · exact h
        · rw [List.getElem?_eq_none (by simpa using h)] at hv; simp at hv
      rw [List.getElem?_append_left (by simpa using hj)]
      exact hv
    have hnav' : Nav w r kb (i.toNat * 4) b' o' := by simpa using hnav
    obtain ⟨cp2, cl2, cc2, bs2, hb2, d0, d1, d2, d3, doth, hown2, hut2, hnd3, hsub2⟩ := put_mem u up ul uc us hut r ⟨k1, n1, t1, s1⟩ y w kb (i.toNat * 4) cp1 cl1 cc1 bsM b' o' (hlen4 0 _ rfl) (hlen4 1 _ rfl) (hlen4 2 _ rfl) (hlen4 3 _ rfl) hown1 ht1 hgM hnd2.2.1 hou hund
      (fun z hz => ⟨fun h => (hdis z hz).1 (by simp [h]), fun h => (hdis z hz).1 (by simp [h])⟩) hnav' hsub
    have hb'kb : b' = kb ∨ b' ∈ bsM := hb2
    have hb'b : b' ≠ b := fun e => by
      rcases hb'kb with h | h
      · exact hb (by simp [← e, h])
      · exact hb (by simp [← e, h])
    have hsame : ∀ z, (set4 w b' o' (.string u.k) (.int .i64 u.n) (.string u.t) (.slice up ul uc)).cell? ⟨b, z, none⟩ = w.cell? ⟨b, z, none⟩ := fun z => World.cell?_of_block (set4_heap (Ne.symm hb'b))
    rw [hput]
    obtain ⟨cur', hheap', hsz'⟩ := set4_shape (b := b') (o := o') (v0 := .string u.k) (v1 := .int .i64 u.n) (v2 := .string u.t) (v3 := .slice up ul uc) hheap
    refine ⟨some ⟨kb, 0, none⟩, x.c.len, cc, kb :: (bsL ++ bs2 ++ bsR), .inr (by rcases hb'kb with h | h <;> simp [h]), by rw [hsame]; exact c0, by rw [hsame]; exact c1, by rw [hsame]; exact c2, by rw [hsame]; exact c3, fun z _ => hsame z, ?_, hxt, ?_, ?_⟩
    · -- the row, with another one in its i-th place
      have hrows := hset (set4 w b' o' (.string u.k) (.int .i64 u.n) (.string u.t) (.slice up ul uc)) (put r ⟨k1, n1, t1, s1⟩ u) cp2 cl2 cc2 bs2 (fun z hz => set4_heap (fun e => by
        rcases hb'kb with h | h
        · exact hndg.1 (by rw [← h, ← e]; simp only [List.mem_append] at hz ⊢; rcases hz with hz | hz <;> simp [hz])
        · rw [← e] at h
          rcases List.mem_append.1 hz with hz | hz
          · exact hnd2.2.2 z hz z h rfl
          · exact hnd1.2.2 z (by simp [h]) z hz rfl)) hown2 hut2
      refine ⟨_, _, ⟨?_, .inr ⟨kb, cc, cur', ?_, Nat.zero_le _, hheap', ?_, hcap, by omega, ?_⟩⟩, hrows, ?_⟩
      · have h1 := hrow.1
        rw [hys] at h1
        simp only [List.length_append, List.length_cons, List.length_nil] at h1 ⊢
        rw [Fo.len_set]
        omega
      · rw [Fo.len_set]
      · rw [Fo.len_set]; exact hle
      · rw [Fo.len_set]
        have hyl := hrow.1
        apply List.ext_getElem?
        intro j
        have hcell' : ∀ z, z < cur'.size → cur'[z]? = (set4 w b' o' (.string u.k) (.int .i64 u.n) (.string u.t) (.slice up ul uc)).cell? ⟨kb, z, none⟩ := fun z hz => by simp [World.cell?, hheap']
        have hcellw : ∀ z, z < x.c.len * 4 → w.cell? ⟨kb, z, none⟩ = ys[z]? := fun z hz => by
          rw [List.getElem?_eq_getElem (by omega)]
          exact hcell z _ (List.getElem?_eq_getElem (by omega))
        by_cases hj : j < x.c.len * 4
        · have hjc : j < cur'.size := by
            have : x.c.len * 4 ≤ cc * 4 := Nat.mul_le_mul_right 4 hle
            omega
          rw [List.getElem?_take, if_pos hj, Array.getElem?_toList, hcell' j hjc]
          have hlen : (pre ++ [Value.string k1, .int .i64 n1, .string t1, .slice cp1 cl1 cc1]).length = i.toNat * 4 + 4 := by simp [hpre]
          by_cases h1 : j < i.toNat * 4
          · rw [doth j (.inl h1), hcellw j hj, hys, List.append_assoc, List.append_assoc, List.getElem?_append_left (by omega), List.getElem?_append_left (by omega)]
          · by_cases h2 : i.toNat * 4 + 4 ≤ j
            · rw [doth j (.inr h2), hcellw j hj, hys, List.getElem?_append_right (by omega), List.getElem?_append_right (by simp [hpre]; omega)]
              simp [hpre]
            · rw [List.append_assoc, List.getElem?_append_right (by omega), hpre]
              have h3 : j = i.toNat * 4 ∨ j = i.toNat * 4 + 1 ∨ j = i.toNat * 4 + 2 ∨ j = i.toNat * 4 + 3 := by omega
              rcases h3 with rfl | rfl | rfl | rfl
              · rw [d0, show i.toNat * 4 - i.toNat * 4 = 0 by omega]; rfl
              · rw [d1, show i.toNat * 4 + 1 - i.toNat * 4 = 1 by omega]; rfl
              · rw [d2, show i.toNat * 4 + 2 - i.toNat * 4 = 2 by omega]; rfl
              · rw [d3, show i.toNat * 4 + 3 - i.toNat * 4 = 3 by omega]; rfl
        · rw [List.getElem?_take, if_neg hj, List.getElem?_eq_none]
          have h1 := hrow.1
          rw [hys] at h1
          simp only [List.length_append, List.length_cons, List.length_nil] at h1 ⊢
          omega
      · rfl
    · -- each block once
      refine List.nodup_cons.2 ⟨fun h => ?_, ?_⟩
      · simp only [List.mem_append] at h
        rcases h with (h | h) | h
        · exact hndg.1 (by simp [h])
        · rcases hsub2 kb h with h | h
          · exact hgM h
          · exact (hdis kb h).1 (by simp)
        · exact hndg.1 (by simp [h])
      · refine List.nodup_append.2 ⟨List.nodup_append.2 ⟨hnd2.1, hnd3, fun a ha z hz e => ?_⟩, hnd1.2.1, fun a ha z hz e => ?_⟩
        · subst e
          rcases hsub2 a hz with h | h
          · exact hnd2.2.2 a ha a h rfl
          · exact (hdis a h).1 (by simp [ha])
        · subst e
          rcases List.mem_append.1 ha with ha | ha
          · exact hnd1.2.2 a (by simp [ha]) a hz rfl
          · rcases hsub2 a ha with h | h
            · exact hnd1.2.2 a (by simp [h]) a hz rfl
            · exact (hdis a h).1 (by simp [hz])
    · intro z hz
      simp only [List.mem_cons, List.mem_append] at hz ⊢
      rcases hz with hz | (hz | hz) | hz
      · exact .inl (.inl hz)
      · exact .inl (.inr (.inl (.inl hz)))
      · rcases hsub2 z hz with h | h
        · exact .inl (.inr (.inl (.inr h)))
        · exact .inr h
      · exact .inl (.inr (.inr hz))
end Go.Proofs.Ytnphhibfiklfjaa
