/- The order of texts and of entries: what the program's functions (bound.Less, algebra.compare) and the document's answer say. Conditions: each theorem names its own. Two permutations of entries sort to one list. -/
import Derived.Test.YtidhbpfkiapcjaaDoorPy0a
import Derived.Test.YtidhbpfkiapcjaaDoorPx10
import Derived.Test.YtidhbpfkiapcjaaDoorAT
/-! The order of texts and of entries: what the program's functions (bound.Less, algebra.compare) and the document's answer say. Conditions: each theorem names its own. -/
section
namespace Go.Proofs.YtidhbpfkiapcjaaDoor.Pure
open Go.RowKit Go.Proofs.YtidhbpfkiapcjaaDoorW.PrintWords Go.Proofs.YtidhbpfkiapcjaaDoorW.PrintLast Go.Proofs.YtidhbpfkiapcjaaDoorW.PrintMore Go.Proofs.YtidhbpfkiapcjaaDoor.P

theorem wf64 {a : Int} (h : (Lit.int .i64 a).wf = true) : -9223372036854775808 ≤ a ∧ a ≤ 9223372036854775807 := by
  simp only [Lit.wf, IntKind.min, IntKind.max, IntKind.signed, IntKind.bits, Bool.and_eq_true, decide_eq_true_eq, if_true] at h
  omega
theorem bl_cons (a b : UInt8) (x y : List UInt8) : Op.bytesLess (a :: x) (b :: y) = (decide (a.toNat < b.toNat) || (decide (a.toNat = b.toNat) && Op.bytesLess x y)) := by
  simp only [Op.bytesLess]
  congr 1
  congr 1
  rw [Bool.eq_iff_iff, beq_iff_eq, decide_eq_true_eq]
  exact ⟨fun h => by rw [h], fun h => UInt8.toNat_inj.mp h⟩
theorem bl_irrefl : ∀ x : List UInt8, Op.bytesLess x x = false
  | [] => rfl
  | a :: x => by rw [bl_cons, bl_irrefl x]; simp
theorem bl_asymm : ∀ x y : List UInt8, Op.bytesLess x y = true → Op.bytesLess y x = false
  | _, [], h => by simp [Op.bytesLess] at h
  | [], _ :: _, _ => rfl
  | a :: x, b :: y, h => by
    rw [bl_cons] at h ⊢
    simp only [Bool.or_eq_true, Bool.and_eq_true, decide_eq_true_eq] at h
    simp only [Bool.or_eq_false_iff, Bool.and_eq_false_iff, decide_eq_false_iff_not]
    rcases h with h | ⟨h, h2⟩
    · exact ⟨by omega, .inl (by omega)⟩
    · exact ⟨by omega, .inr (bl_asymm x y h2)⟩
theorem bl_tri : ∀ x y : List UInt8, Op.bytesLess x y = false → Op.bytesLess y x = false → x = y
  | [], [], _, _ => rfl
  | [], _ :: _, h, _ => by simp [Op.bytesLess] at h
  | _ :: _, [], _, h => by simp [Op.bytesLess] at h
  | a :: x, b :: y, h, h' => by
    rw [bl_cons] at h h'
    simp only [Bool.or_eq_false_iff, Bool.and_eq_false_iff, decide_eq_false_iff_not] at h h'
    have e : a.toNat = b.toNat := by omega
    have e1 : a = b := UInt8.toNat_inj.mp e
    rw [e1, bl_tri x y (h.2.resolve_left (fun k => k e)) (h'.2.resolve_left (fun k => k e.symm))]
theorem bl_trans : ∀ x y z : List UInt8, Op.bytesLess x y = true → Op.bytesLess y z = true → Op.bytesLess x z = true
  | _, _, [], _, h => by simp [Op.bytesLess] at h
  | _, [], _ :: _, h, _ => by simp [Op.bytesLess] at h
  | [], _ :: _, _ :: _, _, _ => rfl
  | a :: x, b :: y, c :: z, h, h' => by
    rw [bl_cons] at h h' ⊢
    simp only [Bool.or_eq_true, Bool.and_eq_true, decide_eq_true_eq] at h h' ⊢
    rcases h with h | ⟨h, h2⟩ <;> rcases h' with h' | ⟨h', h3⟩
    · exact .inl (by omega)
    · exact .inl (by omega)
    · exact .inl (by omega)
    · exact .inr ⟨by omega, bl_trans x y z h2 h3⟩
theorem size_list (s : ByteArray) : s.toList.length = s.size := by rw [Go.ByteArray.toList_eq, Array.length_toList]; rfl
theorem drop_bt (s : ByteArray) (i : Nat) (h : i < s.size) : ∃ c : UInt8, s.toList.drop i = c :: s.toList.drop (i + 1) ∧ bt s (i : Int) = (c.toNat : Int) := by
  have hl : i < s.toList.length := by rw [size_list]; exact h
  refine ⟨s.toList[i], List.drop_eq_getElem_cons hl, ?_⟩
  have h1 := bt_at s (i : Int) (by simpa using h)
  rw [← h1]
  congr 2
  have hd : i < s.data.toList.length := by rw [Array.length_toList]; exact h
  have : s.toList[i] = s.data.toList[i]'hd := by congr 1; exact Go.ByteArray.toList_eq s
  rw [this]
  simp
  rfl

theorem wrap_succ (i : Nat) (h : i < 9223372036854775807) : wrap64 ((i : Int) + 1) = ((i + 1 : Nat) : Int) := by unfold wrap64; omega
theorem less_loop (a b : ByteArray) (ha : a.size ≤ 9223372036854775807) (d : Nat) : ∀ (k i : Nat), i ≤ a.size → i ≤ b.size → a.size - i = d → 2 * d + 1 < k →
    palioref07_Less.l0 k a b (i : Int) = some (Op.bytesLess (a.toList.drop i) (b.toList.drop i)) := by
  induction d with
  | zero =>
    intro k i h1 h2 hd hk
    obtain ⟨k, rfl⟩ : ∃ m, k = m + 2 := ⟨k - 2, by omega⟩
    rw [palioref07_Less.l0, if_neg (by omega), palioref07_Less.j1, if_neg (by decide)]
    rw [List.drop_eq_nil_of_le (by rw [size_list]; omega)]
    by_cases hb : i < b.size
    · obtain ⟨c, hc, _⟩ := drop_bt b i hb
      rw [hc, decide_eq_true (by omega)]; rfl
    · rw [List.drop_eq_nil_of_le (by rw [size_list]; omega), decide_eq_false (by omega)]; rfl
  | succ d ih =>
    intro k i h1 h2 hd hk
    obtain ⟨k, rfl⟩ : ∃ m, k = m + 2 := ⟨k - 2, by omega⟩
    obtain ⟨c, hc, hcb⟩ := drop_bt a i (by omega)
    rw [palioref07_Less.l0, if_pos (by omega), palioref07_Less.j1]
    by_cases hb : i < b.size
    · obtain ⟨e, he, heb⟩ := drop_bt b i hb
      rw [if_pos (decide_eq_true (by omega)), if_pos (by omega), if_pos (by omega), if_pos (by omega), hc, he, bl_cons, hcb, heb]
      by_cases hq : (c.toNat : Int) = (e.toNat : Int)
      · have hn : c.toNat = e.toNat := by clear ih hc he hcb heb; omega
        have hi := ih k (i + 1) (by clear ih hc he hcb heb; omega) (by clear ih hc he hcb heb; omega) (by clear ih hc he hcb heb; omega) (by clear ih hc he hcb heb; omega)
        rw [if_pos hq, wrap_succ i (by clear ih hc he hcb heb hi; omega), hi, hn]
        simp
      · rw [if_neg hq]
        have hn : ¬ c.toNat = e.toNat := by omega
        simp [hn]
    · have hnil : b.toList.drop i = [] := List.drop_eq_nil_of_le (by rw [size_list]; omega)
      rw [if_neg (by simp; omega), hc, hnil, decide_eq_false (by omega)]; rfl
theorem less_ref (a b : ByteArray) (ha : a.size ≤ 9223372036854775807) (k : Nat) (hk : 2 * a.size + 1 < k) : palioref07_Less.f k a b = some (Op.bytesLess a.toList b.toList) := by
  have := less_loop a b ha a.size k 0 (by omega) (by omega) (by omega) hk
  simpa [palioref07_Less.f] using this
/-- The order of two texts: less, the same, greater. -/
theorem three (x y : ByteArray) : (Op.bytesLess x.toList y.toList = true ∧ Op.bytesLess y.toList x.toList = false ∧ ¬ x.toList = y.toList) ∨ (x.toList = y.toList ∧ Op.bytesLess x.toList y.toList = false ∧ Op.bytesLess y.toList x.toList = false) ∨
    (Op.bytesLess x.toList y.toList = false ∧ Op.bytesLess y.toList x.toList = true ∧ ¬ x.toList = y.toList) := by
  cases h : Op.bytesLess x.toList y.toList with
  | true => exact .inl ⟨rfl, bl_asymm _ _ h, fun e => by rw [e, bl_irrefl] at h; cases h⟩
  | false =>
    cases h2 : Op.bytesLess y.toList x.toList with
    | true => exact .inr (.inr ⟨rfl, rfl, fun e => by rw [e, bl_irrefl] at h2; cases h2⟩)
    | false => exact .inr (.inl ⟨bl_tri _ _ h h2, rfl, rfl⟩)
theorem cmp_own (x y : ByteArray) : cmp_Compare_string.f x y = some (if Op.bytesLess x.toList y.toList = true then -1 else if Op.bytesLess y.toList x.toList = true then 1 else 0) := by
  unfold cmp_Compare_string.f
  simp only [cmp_isNaN_string.f, bne_self_eq_false, Bool.false_eq_true, if_false, Option.bind_some]
  rcases three x y with ⟨h1, h2, h3⟩ | ⟨h1, h2, h3⟩ | ⟨h1, h2, h3⟩
  · simp [h1]
  · simp [h1, bl_irrefl]
  · simp [h1, h2]

/-- Of two entries the one stands ahead. -/
def ahead (m1 : ByteArray) (s1 : Int) (m2 : ByteArray) (s2 : Int) : Bool := decide (s1 < s2) || (decide (s1 = s2) && Op.bytesLess m1.toList m2.toList)
theorem or_own (x y : Int) (k : Nat) (hk : 4 < k) : cmp_Or_int.f k [x, y] = some (if x = 0 then y else x) := by
  obtain ⟨k, rfl⟩ : ∃ m, k = m + 4 := ⟨k - 4, by omega⟩
  have w1 : wrap64 (0 + 1) = 1 := by decide +kernel
  have w2 : wrap64 (1 + 1) = 2 := by decide +kernel
  have r0 : rd [x, y] 0 = x := rfl
  have r1 : rd [x, y] 1 = y := rfl
  have hl : (([x, y] : List Int).length : Int) = 2 := rfl
  unfold cmp_Or_int.f
  rw [cmp_Or_int.l0, hl, if_pos (by decide), if_pos (by decide), if_pos (by decide), r0]
  by_cases h : x = 0
  · rw [if_pos h, if_pos h, w1, cmp_Or_int.l0, hl, if_pos (by decide), if_pos (by decide), if_pos (by decide), r1]
    by_cases h2 : y = 0
    · rw [if_pos h2, w2, cmp_Or_int.l0, if_neg (by decide), h2]
    · rw [if_neg h2]
  · rw [if_neg h, if_neg h]
theorem ahead_own (m1 : ByteArray) (s1 : Int) (m2 : ByteArray) (s2 : Int) (k : Nat) (hk : 4 < k) : bound_Less.f k m1 s1 m2 s2 = some (ahead m1 s1 m2 s2) := by
  unfold bound_Less.f ahead
  rw [cmp_own]
  simp only [cmp_Compare_int64.f, cmp_isNaN_int64.f, bne_self_eq_false, Bool.false_eq_true, if_false, Option.bind_some]
  have hs : s1 < s2 ∨ s1 = s2 ∨ s2 < s1 := by omega
  rcases hs with h | rfl | h
  · rw [if_pos h]
    simp only [Option.bind_some]
    rw [or_own _ _ k hk]
    simp [h]
  · rw [if_neg (Int.lt_irrefl _), if_neg (Int.lt_irrefl _)]
    simp only [Option.bind_some]
    rw [or_own _ _ k hk]
    rcases three m1 m2 with ⟨h1, h2, h3⟩ | ⟨h1, h2, h3⟩ | ⟨h1, h2, h3⟩
    · simp [h1]
    · simp [h2, h3]
    · simp [h1, h2]
  · rw [if_neg (by omega), if_pos h]
    simp only [Option.bind_some]
    rw [or_own _ _ k hk]
    simp [show ¬ s1 < s2 by omega, show ¬ s1 = s2 by omega]
theorem ahead_ref (m1 : ByteArray) (s1 : Int) (m2 : ByteArray) (s2 : Int) (hm : m1.size ≤ 9223372036854775807) (k : Nat) (hk : 2 * m1.size + 1 < k) : palioref09_Less.f k m1 s1 m2 s2 = some (ahead m1 s1 m2 s2) := by
  unfold palioref09_Less.f ahead
  rw [less_ref m1 m2 hm k hk]
  by_cases h : s1 < s2
  · simp [h]
  · by_cases h2 : s1 = s2
    · simp [h2]
    · simp [h, h2]
/-- Which of two entries stands ahead, as one test. -/
def lessE (a b : S36) : Bool := ahead a.f0 a.f1 b.f0 b.f1
/-- What compare answers. -/
def cmpE (a b : S36) : Int := if lessE a b = true then -1 else if lessE b a = true then 1 else 0
theorem toList_inj {x y : ByteArray} (h : x.toList = y.toList) : x = y := by
  rw [Go.ByteArray.toList_eq, Go.ByteArray.toList_eq] at h
  cases x; cases y
  simp only [ByteArray.mk.injEq]
  exact Array.toList_inj.1 h
theorem lessE_irrefl (a : S36) : lessE a a = false := by
  unfold lessE ahead
  simp [bl_irrefl]
theorem lessE_asymm (a b : S36) (h : lessE a b = true) : lessE b a = false := by
  unfold lessE ahead at h ⊢
  simp only [Bool.or_eq_true, Bool.and_eq_true, decide_eq_true_eq] at h
  simp only [Bool.or_eq_false_iff, Bool.and_eq_false_iff, decide_eq_false_iff_not]
  rcases h with h | ⟨h, h2⟩
  · exact ⟨by omega, .inl (by omega)⟩
  · exact ⟨by omega, .inr (bl_asymm _ _ h2)⟩
theorem lessE_tri (a b : S36) (h : lessE a b = false) (h2 : lessE b a = false) : a = b := by
  obtain ⟨m, s⟩ := a
  obtain ⟨m2, s2⟩ := b
  unfold lessE ahead at h h2
  simp only [Bool.or_eq_false_iff, Bool.and_eq_false_iff, decide_eq_false_iff_not] at h h2
  have e : s = s2 := by omega
  subst e
  have e2 : m = m2 := toList_inj (bl_tri _ _ (h.2.resolve_left (fun k => k rfl)) (h2.2.resolve_left (fun k => k rfl)))
  rw [e2]
theorem lessE_trans (a b c : S36) (h : lessE a b = true) (h2 : lessE b c = true) : lessE a c = true := by
  unfold lessE ahead at h h2 ⊢
  simp only [Bool.or_eq_true, Bool.and_eq_true, decide_eq_true_eq] at h h2 ⊢
  rcases h with h | ⟨h, h3⟩ <;> rcases h2 with h2 | ⟨h2, h4⟩
  · exact .inl (by omega)
  · exact .inl (by omega)
  · exact .inl (by omega)
  · exact .inr ⟨by omega, bl_trans _ _ _ h3 h4⟩
theorem compare_own (a b : S36) : algebra_compare.f 5 a.f0 a.f1 b.f0 b.f1 = some (cmpE a b) := by
  unfold algebra_compare.f cmpE
  rw [ahead_own _ _ _ _ 5 (by decide)]
  by_cases h : a = b
  · subst h
    rw [lessE_irrefl]
    simp
  · have h1 : ¬ ((a.f0.toList == b.f0.toList && (a.f1 == b.f1)) = true) := fun e => by
      rw [Bool.and_eq_true, beq_iff_eq, beq_iff_eq] at e
      have e1 := toList_inj e.1
      cases a; cases b
      simp only at e1 e
      exact h (by rw [e1, e.2])
    rw [if_neg h1]
    simp only [Option.bind_some]
    show (if lessE a b = true then some (-1) else some 1) = _
    cases h2 : lessE a b with
    | true => simp
    | false =>
      cases h3 : lessE b a with
      | true => simp
      | false => exact absurd (lessE_tri a b h2 h3) h
theorem cmp_neg (a b : S36) : decide (cmpE a b < 0) = lessE a b := by
  unfold cmpE
  cases h : lessE a b with
  | true => simp
  | false => cases h2 : lessE b a <;> simp
end Go.Proofs.YtidhbpfkiapcjaaDoor.Pure
end
/-! Two permutations of entries sort to one list. -/
section
namespace Go.Proofs.YtidhbpfkiapcjaaDoor.Pure
open Go.RowKit Go.Proofs.YtidhbpfkiapcjaaDoorW.PrintWords Go.Proofs.YtidhbpfkiapcjaaDoorW.PrintLast Go.Proofs.YtidhbpfkiapcjaaDoorW.PrintMore Go.Proofs.YtidhbpfkiapcjaaDoor.P

/-- Stands no later. -/
def leE (x y : S36) : Bool := !lessE y x
theorem leE_trans (x y z : S36) (h : leE x y = true) (h2 : leE y z = true) : leE x z = true := by
  unfold leE at *
  simp only [Bool.not_eq_true'] at *
  cases h3 : lessE z x with
  | false => rfl
  | true =>
    cases h4 : lessE x y with
    | true => rw [lessE_trans z x y h3 h4] at h2; cases h2
    | false =>
      have := lessE_tri x y h4 h
      subst this
      rw [h3] at h2
      cases h2
theorem leE_total (x y : S36) : (leE x y || leE y x) = true := by
  unfold leE
  cases h : lessE y x with
  | false => rfl
  | true => rw [lessE_asymm y x h]; rfl
theorem leE_anti (x y : S36) (h : leE x y = true) (h2 : leE y x = true) : x = y := by
  unfold leE at *
  simp only [Bool.not_eq_true'] at *
  exact lessE_tri x y h2 h
theorem sort_perm {S R : List S36} (h : S.Perm R) : S.mergeSort leE = R.mergeSort leE := by
  have p : (S.mergeSort leE).Perm (R.mergeSort leE) := (List.mergeSort_perm S leE).trans (h.trans (List.mergeSort_perm R leE).symm)
  exact p.eq_of_pairwise (fun a b _ _ h1 h2 => leE_anti a b h1 h2) (List.pairwise_mergeSort leE_trans leE_total S) (List.pairwise_mergeSort leE_trans leE_total R)
end Go.Proofs.YtidhbpfkiapcjaaDoor.Pure
end
