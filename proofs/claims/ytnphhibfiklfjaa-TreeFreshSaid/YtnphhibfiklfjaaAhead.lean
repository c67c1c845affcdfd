/-
  Paths in the order of a walk: which is ahead; what lies at them; what is put there. The walk of espalierlaw4.ahead.
-/
import Derived.Test.YtnphhibfiklfjaaPkC

import Derived.Test.YtnphhibfiklfjaaPut

import Derived.Deep.LoopGhost

set_option linter.unusedVariables false

set_option linter.unusedSimpArgs false

namespace Go.Proofs.Ytnphhibfiklfjaa

open Go.RowKit

/-- append in a round: where the new slice lies. -/
theorem wpListIn_append_lies {F : Fence} {nn : Nat} {P : Program} (w : World) {ops : Array Oper} {rest : List Oper} {o : Oper} {a : Act} {Q : Exit → Act → World → Prop}
    (hgd : o.guard = none) (s x : Operand) (t : TypeId) (ho : o.op = .call { callee := .builtin .append, args := #[s, x], argTypes := #[t, t] })
    (base : Nat) (e : TypeId) (i : TypeInfo) (z : Value) (size bytes : Nat) (ht : P.underlying t = some (.slice e)) (hi : P.info? e = some i) (hz : i.zero = some z)
    (hsize : i.size = size) (hby : i.bytes = bytes) (hzs : z.cells.size = size) (hsz : 0 < size)
    (v : Value) (n : Nat) (xs : List Value) (hs : a.eval s = v) (hown : w.ownsRow base e size v n xs)
    (ad : Addr) (m c : Nat) (news : List Value) (hx : a.eval x = .slice (some ad) m c) (hl : news.length = m * size) (hnews : ∀ j u, news[j]? = some u → w.cell? (ad.add j) = some u) (h1 : ∀ u ∈ news, u.oneCell' = true)
    (hm : 0 < m) (h63 : n + m ≤ maxLen) (hbytes : (n + m) * bytes ≤ 140737488355328) (hbase : base ≤ w.heap.size) (H : Nat) (hH : w.heap.size = H)
    (h : ∀ g cap w', w'.ownsRow base e size (.slice (some ⟨g, 0, none⟩) (n + m) cap) (n + m) (xs ++ news) → w.grownBy w' v.ownBlock → (v.ownBlock = some g ∨ g = H) → g < w'.heap.size → wpListIn F nn P ops Q rest (a.put o.dst (.slice (some ⟨g, 0, none⟩) (n + m) cap)) w') : wpListIn F nn P ops Q (o :: rest) a w := by
  refine wpListIn_plain hgd fun K hK' => ?_
  obtain ⟨g, cap, w', hr, h2, h3, h4, h5⟩ := run_append_lies (P := P) w t o.type base e i z size bytes ht hi hz hsize hby hzs hsz v n xs hown ad m c news hl hnews h1 hm h63 hbytes hbase H hH
  unfold Oper.wpIn
  refine ⟨?_, ?_⟩
  · simp [Oper.about, ho, resolve, Target.leads, Sem.run_pure]
  · rw [Oper.semAt_plain F _ _ (by rw [ho]; intro c hc'; cases hc')]
    simp only [execOp, ho, resolve, invoke, builtin, Sem.run_bind, Sem.run_pure, Result.andThen_ok, List.map_toArray, List.map_cons, List.map_nil, hs, hx, hr]
    exact hK' _ _ (h g cap w' h2 h3 h4 h5)

def aheadB : List Int → List Int → Bool
  | [], [] => false
  | [], _ :: _ => true
  | _ :: _, [] => false
  | a :: r, b :: s => if a = b then aheadB r s else decide (a < b)
theorem aheadB_app (p r s : List Int) : aheadB (p ++ r) (p ++ s) = aheadB r s := by
  induction p with
  | nil => rfl
  | cons a p ih => simp [aheadB, ih]
theorem preK_form (f : Fo) : ∀ (p : List Int) (i : Nat), ∀ e ∈ preK p i f, ∃ (j : Int) (r : List Int), e.1 = p ++ (j :: r) ∧ (i : Int) ≤ j := by
  induction f with
  | nil => intro p i e he; simp [preK] at he
  | cons k n t c r ihc ihr =>
    intro p i e he
    rcases List.mem_append.1 he with he | he
    · rcases List.mem_cons.1 he with rfl | he
      · exact ⟨i, [], rfl, Int.le_refl _⟩
      · obtain ⟨j, s, h1, _⟩ := ihc _ _ e he
        exact ⟨i, j :: s, by rw [h1]; simp, Int.le_refl _⟩
    · obtain ⟨j, s, h1, h2⟩ := ihr _ _ e he
      exact ⟨j, s, h1, by omega⟩
theorem preK_sorted (f : Fo) : ∀ (p : List Int) (i : Nat), (preK p i f).Pairwise (fun a b => aheadB a.1 b.1 = true) := by
  induction f with
  | nil => intro p i; simp [preK]
  | cons k n t c r ihc ihr =>
    intro p i
    simp only [preK, List.cons_append]
    refine List.pairwise_cons.2 ⟨?_, List.pairwise_append.2 ⟨ihc _ _, ihr _ _, ?_⟩⟩
    · intro e he
      rcases List.mem_append.1 he with he | he
      · obtain ⟨j, s, h1, _⟩ := preK_form c _ _ e he
        show aheadB (p ++ [(i : Int)]) e.1 = true
        have := aheadB_app (p ++ [(i : Int)]) [] (j :: s)
        rw [List.append_nil] at this
        rw [h1, this]
        rfl
      · obtain ⟨j, s, h1, h2⟩ := preK_form r _ _ e he
        show aheadB (p ++ [(i : Int)]) e.1 = true
        rw [h1, aheadB_app]
        simp only [aheadB]
        rw [if_neg (by omega)]
        simp; omega
    · intro a ha e he
      obtain ⟨j', s', h1', _⟩ := preK_form c _ _ a ha
      obtain ⟨j, s, h1, h2⟩ := preK_form r _ _ e he
      rw [h1, h1', List.append_assoc, aheadB_app]
      simp only [List.cons_append, List.nil_append, aheadB]
      rw [if_neg (by omega)]
      simp; omega
theorem pre_sorted (p : List Int) (x : Nd) : (pre p x).Pairwise (fun a b => aheadB a.1 b.1 = true) := by
  refine List.pairwise_cons.2 ⟨?_, preK_sorted _ _ _⟩
  intro e he
  obtain ⟨j, s, h1, _⟩ := preK_form x.c _ _ e he
  have := aheadB_app p [] (j :: s)
  rw [List.append_nil] at this
  show aheadB p e.1 = true
  rw [h1, this]
  rfl
theorem preK_sub (f : Fo) : ∀ (p : List Int) (i : Nat) (x : Nd), x.c.drop i = f → ∀ e ∈ preK p i f, ∃ r, e.1 = p ++ r ∧ sub r x = some e.2 := by
  induction f with
  | nil => intro p i x hx e he; simp [preK] at he
  | cons k n t c r ihc ihr =>
    intro p i x hx e he
    have hk : x.c.kid (i : Int) = some ⟨k, n, t, c⟩ := by
      unfold Fo.kid
      rw [if_neg (by omega), Int.toNat_natCast]
      exact Fo.at?_drop hx
    rcases List.mem_append.1 he with he | he
    · rcases List.mem_cons.1 he with rfl | he
      · exact ⟨[(i : Int)], rfl, by simp [sub, hk]⟩
      · obtain ⟨s, h1, h2⟩ := ihc (p ++ [(i : Int)]) 0 ⟨k, n, t, c⟩ rfl e he
        exact ⟨(i : Int) :: s, by rw [h1]; simp, by simp [sub, hk, h2]⟩
    · exact ihr p (i + 1) x (Fo.drop_step hx) e he
theorem pre_sub (x : Nd) : ∀ e ∈ pre [] x, sub e.1 x = some e.2 := by
  intro e he
  rcases List.mem_cons.1 he with rfl | he
  · rfl
  · obtain ⟨r, h1, h2⟩ := preK_sub x.c [] 0 x rfl e he
    rw [h1]
    exact h2
/-- A kid is no greater. -/
theorem kid_le {x z : Nd} {i : Int} (h : x.c.kid i = some z) : z.nodes ≤ x.nodes ∧ z.depth ≤ x.depth ∧ z.bytes ≤ x.bytes := by
  unfold Fo.kid at h
  split at h
  · simp at h
  · by_cases hl : i.toNat < x.c.len
    · obtain ⟨k, n, t, c, r', hd⟩ := Fo.drop_lt i.toNat x.c hl
      rw [Fo.at?_drop hd] at h
      injection h with h
      subst h
      have d1 : ∀ (j : Nat) (f : Fo), (f.drop j).nodes ≤ f.nodes ∧ (f.drop j).depth ≤ f.depth ∧ (f.drop j).bytes ≤ f.bytes := by
        intro j
        induction j with
        | zero => intro f; exact ⟨Nat.le_refl _, Nat.le_refl _, Nat.le_refl _⟩
        | succ j ih => intro f; cases f with
          | nil => simp [Fo.drop, Fo.nodes, Fo.depth, Fo.bytes]
          | cons k n t c r =>
            obtain ⟨h1, h2, h3⟩ := ih r
            simp only [Fo.drop, Fo.nodes, Fo.depth, Fo.bytes]
            omega
      obtain ⟨h1, h2, h3⟩ := d1 i.toNat x.c
      rw [hd] at h1 h2 h3
      simp only [Fo.nodes, Fo.depth, Fo.bytes] at h1 h2 h3
      simp only [Nd.nodes, Nd.depth, Nd.bytes]
      omega
    · rw [Fo.at?_none (by omega)] at h; simp at h
theorem sub_le : ∀ (p : List Int) {x y : Nd}, sub p x = some y → y.nodes ≤ x.nodes ∧ y.depth ≤ x.depth ∧ y.bytes ≤ x.bytes
  | [], x, y, h => by simp [sub] at h; rw [h]; exact ⟨Nat.le_refl _, Nat.le_refl _, Nat.le_refl _⟩
  | i :: r, x, y, h => by
    simp only [sub] at h
    cases hk : x.c.kid i with
    | none => rw [hk] at h; simp at h
    | some z =>
      rw [hk] at h
      obtain ⟨a1, a2, a3⟩ := sub_le r h
      obtain ⟨b1, b2, b3⟩ := kid_le hk
      exact ⟨Nat.le_trans a1 b1, Nat.le_trans a2 b2, Nat.le_trans a3 b3⟩
theorem sub_small {p : List Int} {x y : Nd} (h : sub p x = some y) (hx : x.small) : y.small := by
  obtain ⟨a1, a2, a3⟩ := sub_le p h
  obtain ⟨b1, b2, b3⟩ := hx
  exact ⟨Nat.le_trans a1 b1, Nat.le_trans a2 b2, Nat.le_trans a3 b3⟩
theorem Fo.at?_set : ∀ (f : Fo) (i : Nat) (y z : Nd), f.at? i = some y → (f.set i z).at? i = some z
  | .nil, i, y, z, h => by simp [Fo.at?] at h
  | .cons k n t c r, 0, y, z, h => rfl
  | .cons k n t c r, i + 1, y, z, h => Fo.at?_set r i y z h
theorem Fo.set_set : ∀ (f : Fo) (i : Nat) (y z : Nd), (f.set i y).set i z = f.set i z
  | .nil, i, y, z => rfl
  | .cons k n t c r, 0, y, z => rfl
  | .cons k n t c r, i + 1, y, z => by simp only [Fo.set]; rw [Fo.set_set r i y z]
theorem Fo.set_self : ∀ (f : Fo) (i : Nat) (y : Nd), f.at? i = some y → f.set i y = f
  | .nil, i, y, h => rfl
  | .cons k n t c r, 0, y, h => by simp only [Fo.at?, Option.some.injEq] at h; subst h; rfl
  | .cons k n t c r, i + 1, y, h => by simp only [Fo.set]; rw [Fo.set_self r i y h]
theorem kid_set {f : Fo} {i : Int} {y : Nd} (z : Nd) (h : f.kid i = some y) : (f.set i.toNat z).kid i = some z := by
  unfold Fo.kid at h ⊢
  split at h
  · simp at h
  · rw [if_neg (by assumption)]
    exact Fo.at?_set f _ y z h
theorem put_cons {i : Int} {r : List Int} {x y : Nd} (u : Nd) (h : x.c.kid i = some y) : put (i :: r) x u = ⟨x.k, x.n, x.t, x.c.set i.toNat (put r y u)⟩ := by simp [put, h]
/-- What is put is found. -/
theorem sub_put : ∀ (p : List Int) (x u y : Nd), sub p x = some y → sub p (put p x u) = some u
  | [], x, u, y, h => rfl
  | i :: r, x, u, y, h => by
    simp only [sub] at h
    cases hk : x.c.kid i with
    | none => rw [hk] at h; simp at h
    | some z =>
      rw [hk] at h
      rw [put_cons u hk]
      simp only [sub]
      rw [kid_set _ hk]
      exact sub_put r z u y h
/-- Put back, it is the tree. -/
theorem put_put : ∀ (p : List Int) (x u y : Nd), sub p x = some y → put p (put p x u) y = x
  | [], x, u, y, h => by simp only [sub, Option.some.injEq] at h; rw [h]; rfl
  | i :: r, x, u, y, h => by
    simp only [sub] at h
    cases hk : x.c.kid i with
    | none => rw [hk] at h; simp at h
    | some z =>
      rw [hk] at h
      have h1 : x.c.set i.toNat z = x.c := by
        have := hk
        unfold Fo.kid at this
        split at this
        · simp at this
        · exact Fo.set_self _ _ _ this
      have h0 : put (i :: r) (put (i :: r) x u) y = ⟨x.k, x.n, x.t, (x.c.set i.toNat (put r z u)).set i.toNat (put r (put r z u) y)⟩ := by
        rw [put_cons u hk]
        exact put_cons y (x := ⟨x.k, x.n, x.t, x.c.set i.toNat (put r z u)⟩) (kid_set _ hk)
      rw [h0, Fo.set_set, put_put r z u y h, h1]

set_option maxRecDepth 100000 in
set_option maxHeartbeats 800000 in
theorem ahead_any (xs ys : List Int) (p q : Option Addr) (n m c c' : Nat) (A A' : Nat → Prop) (w : World) (h : Ints w A xs p n) (h' : Ints w A' ys q m) :
    Calls Try.prog 13 #[.slice p n c, .slice q m c'] w fun e w' => e = .returned (.bool (aheadB xs ys)) ∧ Keeps (fun _ => False) w w' := by
  have hl := h.len
  have hl' := h'.len
  have hle := h.le
  have hle' := h'.le
  go_enter Try.func13, Try.ntmps13
  go_wp2_with fail
  go_loopg [5] n (fun g i W => ∃ j : Nat, j + g = n ∧ i = .int .i64 j ∧ j ≤ m ∧ (aheadB xs ys = aheadB (xs.drop j) (ys.drop j)) ∧ Keeps (fun _ => False) w W)
  case atStart => exact ⟨0, by omega, rfl, Nat.zero_le _, rfl, Keeps.refl _ _⟩
  case round =>
    obtain ⟨j, hjm, rfl, hjm', hiff, hkr⟩ := hrel
    have hr := h.keeps hkr (fun _ _ h => h)
    have hr' := h'.keeps hkr (fun _ _ h => h)
    have HI := Lib.hid hiff
    have HJ := Lib.hid hjm
    have HK := Lib.hid hkr
    by_cases hlt : j < n ∧ j < m
    · obtain ⟨hlt, hlt'⟩ := hlt
      obtain ⟨x, r, hd, hd1, b, o, rfl, _, hb⟩ := hr.dropLt hlt
      obtain ⟨y, r', hd', hd1', b', o', rfl, _, hb'⟩ := hr'.dropLt hlt'
      have c0 := hr.at_ hd
      have c0' := hr'.at_ hd'
      have HD := Lib.hid hd
      have HD' := Lib.hid hd'
      have HE := Lib.hid hd1
      have HE' := Lib.hid hd1'
      have hi0' : (0 : Int) ≤ (j : Int) := Int.natCast_nonneg _
      have hi1 : (j : Int) < (n : Int) := by omega
      have hi2 : (j : Int) < (m : Int) := by omega
      clear hd hd' hd1 hd1' hiff hjm hkr hr hr' h h' hl hl'
      by_cases hxy : x = y
      · subst hxy
        go_wp2_with fail
        go_quiet (fail)
        go_wp2_with fail
        go_roundg (gk - 1)
        case measure => have := HJ.out; omega
        case rel => exact ⟨j + 1, by have := HJ.out; omega, by go_num, by omega, by rw [HI.out, HD.out, HD'.out, HE.out, HE'.out]; simp [aheadB], HK.out.drewN _⟩
      · have h1 := num_ne hxy
        go_wp2_with fail
        go_quiet (fail)
        go_wp2_with fail
        go_quiet (fail)
        go_wp2_with fail
        go_ret
        refine ⟨?_, (HK.out.drewN _).drewN _⟩
        rw [HI.out, HD.out, HD'.out]
        simp [aheadB, hxy]
    · have HX : Hid (aheadB xs ys = decide ((n : Int) < (m : Int))) := by
        show aheadB xs ys = decide ((n : Int) < (m : Int))
        rw [hiff]
        by_cases h1 : j < n
        · have h2 : j = m := by omega
          rw [show ys.drop j = [] from List.drop_eq_nil_of_le (by omega)]
          obtain ⟨x, r, hd, _⟩ := hr.dropLt h1
          rw [hd]
          simp [aheadB]; omega
        · rw [show xs.drop j = [] from List.drop_eq_nil_of_le (by omega)]
          by_cases h2 : j < m
          · obtain ⟨x, r, hd, _⟩ := hr'.dropLt h2
            rw [hd]
            simp [aheadB]; omega
          · rw [show ys.drop j = [] from List.drop_eq_nil_of_le (by omega)]
            simp [aheadB]; omega
      have hjle : j ≤ n := by omega
      by_cases h1 : j < n
      · have h2 : m ≤ j := by omega
        clear hiff hjm hkr hr hr' h h' hl hl' hlt
        go_wp2_with fail
        go_ret
        exact ⟨by rw [HX.out]; simp, HK.out⟩
      · have h2 : n ≤ j := by omega
        clear hiff hjm hkr hr hr' h h' hl hl' hlt
        go_wp2_with fail
        go_ret
        exact ⟨by rw [HX.out]; simp, HK.out⟩
end Go.Proofs.Ytnphhibfiklfjaa
