/- The order of entries, and of a row of them: what the program's function and the document's answer; how many of a sorted row stand ahead of one. Conditions: each theorem names its own. -/
import Derived.Test.YtnlbdmiflihghaaPx2
import Derived.Test.YtnlbdmiflihghaaPx3
namespace Go.Proofs.Ytnlbdmiflihghaa.P
open Go.RowKit Go.Proofs.YtnlbdmiflihghaaW.PrintWords Go.Proofs.YtnlbdmiflihghaaW.PrintLast Go.Proofs.YtnlbdmiflihghaaW.PrintMore

theorem wf64 {a : Int} (h : (Lit.int .i64 a).wf = true) : -9223372036854775808 ≤ a ∧ a ≤ 9223372036854775807 := by
  simp only [Lit.wf, IntKind.min, IntKind.max, IntKind.signed, IntKind.bits, Bool.and_eq_true, decide_eq_true_eq, if_true] at h
  omega
theorem bl_cons (a b : UInt8) (x y : List UInt8) : Op.bytesLess (a :: x) (b :: y) = (decide (a.toNat < b.toNat) || (decide (a.toNat = b.toNat) && Op.bytesLess x y)) := by
  simp only [Op.bytesLess]
  congr 1
  congr 1
  rw [Bool.eq_iff_iff, beq_iff_eq, decide_eq_true_eq]
  exact ⟨fun h => by rw [h], fun h => UInt8.toNat_inj.mp h⟩
theorem bl_irrefl : ∀ x : List UInt8, Op.bytesLess x x = false
  | [] => rfl
  | a :: x => by rw [bl_cons, bl_irrefl x]; simp
theorem bl_asymm : ∀ x y : List UInt8, Op.bytesLess x y = true → Op.bytesLess y x = false
  | _, [], h => by simp [Op.bytesLess] at h
  | [], _ :: _, _ => rfl
  | a :: x, b :: y, h => by
    rw [bl_cons] at h ⊢
    simp only [Bool.or_eq_true, Bool.and_eq_true, decide_eq_true_eq] at h
    simp only [Bool.or_eq_false_iff, Bool.and_eq_false_iff, decide_eq_false_iff_not]
    rcases h with h | ⟨h, h2⟩
    · exact ⟨by omega, .inl (by omega)⟩
    · exact ⟨by omega, .inr (bl_asymm x y h2)⟩
theorem bl_tri : ∀ x y : List UInt8, Op.bytesLess x y = false → Op.bytesLess y x = false → x = y
  | [], [], _, _ => rfl
  | [], _ :: _, h, _ => by simp [Op.bytesLess] at h
  | _ :: _, [], _, h => by simp [Op.bytesLess] at h
  | a :: x, b :: y, h, h' => by
    rw [bl_cons] at h h'
    simp only [Bool.or_eq_false_iff, Bool.and_eq_false_iff, decide_eq_false_iff_not] at h h'
    have e : a.toNat = b.toNat := by omega
    have e1 : a = b := UInt8.toNat_inj.mp e
    rw [e1, bl_tri x y (h.2.resolve_left (fun k => k e)) (h'.2.resolve_left (fun k => k e.symm))]
theorem bl_trans : ∀ x y z : List UInt8, Op.bytesLess x y = true → Op.bytesLess y z = true → Op.bytesLess x z = true
  | _, _, [], _, h => by simp [Op.bytesLess] at h
  | _, [], _ :: _, h, _ => by simp [Op.bytesLess] at h
  | [], _ :: _, _ :: _, _, _ => rfl
  | a :: x, b :: y, c :: z, h, h' => by
    rw [bl_cons] at h h' ⊢
    simp only [Bool.or_eq_true, Bool.and_eq_true, decide_eq_true_eq] at h h' ⊢
    rcases h with h | ⟨h, h2⟩ <;> rcases h' with h' | ⟨h', h3⟩
    · exact .inl (by omega)
    · exact .inl (by omega)
    · exact .inl (by omega)
    · exact .inr ⟨by omega, bl_trans x y z h2 h3⟩
/-- Greater is: neither less nor the same. -/
theorem bl_gt (x y : List UInt8) : Op.bytesLess y x = (!Op.bytesLess x y && !(x == y)) := by
  cases h : Op.bytesLess x y with
  | true => simpa using bl_asymm x y h
  | false =>
    cases h2 : Op.bytesLess y x with
    | true =>
      have : ¬ x = y := fun e => by rw [e, bl_irrefl] at h2; cases h2
      simp [this]
    | false => simp [bl_tri x y h h2]
theorem size_list (s : ByteArray) : s.toList.length = s.size := by rw [Go.ByteArray.toList_eq, Array.length_toList]; rfl
theorem drop_bt (s : ByteArray) (i : Nat) (h : i < s.size) : ∃ c : UInt8, s.toList.drop i = c :: s.toList.drop (i + 1) ∧ bt s (i : Int) = (c.toNat : Int) := by
  have hl : i < s.toList.length := by rw [size_list]; exact h
  refine ⟨s.toList[i], List.drop_eq_getElem_cons hl, ?_⟩
  have h1 := bt_at s (i : Int) (by simpa using h)
  rw [← h1]
  congr 2
  have hd : i < s.data.toList.length := by rw [Array.length_toList]; exact h
  have : s.toList[i] = s.data.toList[i]'hd := by congr 1; exact Go.ByteArray.toList_eq s
  rw [this]
  simp
  rfl

theorem wrap_succ (i : Nat) (h : i < 9223372036854775807) : wrap64 ((i : Int) + 1) = ((i + 1 : Nat) : Int) := by unfold wrap64; omega
theorem less_loop (a b : ByteArray) (ha : a.size ≤ 9223372036854775807) (d : Nat) : ∀ (k i : Nat), i ≤ a.size → i ≤ b.size → a.size - i = d → 2 * d + 1 < k →
    palioref07_Less.l0 k a b (i : Int) = some (Op.bytesLess (a.toList.drop i) (b.toList.drop i)) := by
  induction d with
  | zero =>
    intro k i h1 h2 hd hk
    obtain ⟨k, rfl⟩ : ∃ m, k = m + 2 := ⟨k - 2, by omega⟩
    rw [palioref07_Less.l0, if_neg (by omega), palioref07_Less.j1, if_neg (by decide)]
    rw [List.drop_eq_nil_of_le (by rw [size_list]; omega)]
    by_cases hb : i < b.size
    · obtain ⟨c, hc, _⟩ := drop_bt b i hb
      rw [hc, decide_eq_true (by omega)]; rfl
    · rw [List.drop_eq_nil_of_le (by rw [size_list]; omega), decide_eq_false (by omega)]; rfl
  | succ d ih =>
    intro k i h1 h2 hd hk
    obtain ⟨k, rfl⟩ : ∃ m, k = m + 2 := ⟨k - 2, by omega⟩
    obtain ⟨c, hc, hcb⟩ := drop_bt a i (by omega)
    rw [palioref07_Less.l0, if_pos (by omega), palioref07_Less.j1]
    by_cases hb : i < b.size
    · obtain ⟨e, he, heb⟩ := drop_bt b i hb
      rw [if_pos (decide_eq_true (by omega)), if_pos (by omega), if_pos (by omega), if_pos (by omega), hc, he, bl_cons, hcb, heb]
      by_cases hq : (c.toNat : Int) = (e.toNat : Int)
      · have hn : c.toNat = e.toNat := by clear ih hc he hcb heb; omega
        have hi := ih k (i + 1) (by clear ih hc he hcb heb; omega) (by clear ih hc he hcb heb; omega) (by clear ih hc he hcb heb; omega) (by clear ih hc he hcb heb; omega)
        rw [if_pos hq, wrap_succ i (by clear ih hc he hcb heb hi; omega), hi, hn]
        simp
      · rw [if_neg hq]
        have hn : ¬ c.toNat = e.toNat := by omega
        simp [hn]
    · have hnil : b.toList.drop i = [] := List.drop_eq_nil_of_le (by rw [size_list]; omega)
      rw [if_neg (by simp; omega), hc, hnil, decide_eq_false (by omega)]; rfl
theorem less_ref (a b : ByteArray) (ha : a.size ≤ 9223372036854775807) (k : Nat) (hk : 2 * a.size + 1 < k) : palioref07_Less.f k a b = some (Op.bytesLess a.toList b.toList) := by
  have := less_loop a b ha a.size k 0 (by omega) (by omega) (by omega) hk
  simpa [palioref07_Less.f] using this
/-- The order of two texts: less, the same, greater. -/
theorem three (x y : ByteArray) : (Op.bytesLess x.toList y.toList = true ∧ Op.bytesLess y.toList x.toList = false ∧ ¬ x.toList = y.toList) ∨ (x.toList = y.toList ∧ Op.bytesLess x.toList y.toList = false ∧ Op.bytesLess y.toList x.toList = false) ∨
    (Op.bytesLess x.toList y.toList = false ∧ Op.bytesLess y.toList x.toList = true ∧ ¬ x.toList = y.toList) := by
  cases h : Op.bytesLess x.toList y.toList with
  | true => exact .inl ⟨rfl, bl_asymm _ _ h, fun e => by rw [e, bl_irrefl] at h; cases h⟩
  | false =>
    cases h2 : Op.bytesLess y.toList x.toList with
    | true => exact .inr (.inr ⟨rfl, rfl, fun e => by rw [e, bl_irrefl] at h2; cases h2⟩)
    | false => exact .inr (.inl ⟨bl_tri _ _ h h2, rfl, rfl⟩)
theorem cmp_own (x y : ByteArray) : cmp_Compare_string.f x y = some (if Op.bytesLess x.toList y.toList = true then -1 else if Op.bytesLess y.toList x.toList = true then 1 else 0) := by
  unfold cmp_Compare_string.f
  rcases three x y with ⟨h1, h2, h3⟩ | ⟨h1, h2, h3⟩ | ⟨h1, h2, h3⟩
  · simp [cmp_isNaN_string.f, h1]
  · simp [cmp_isNaN_string.f, h1, bl_irrefl]
  · simp [cmp_isNaN_string.f, h1, h2]
/-- Of two entries the one stands ahead. -/
def ahead (m1 : ByteArray) (s1 : Int) (m2 : ByteArray) (s2 : Int) : Bool := decide (s1 < s2) || (decide (s1 = s2) && Op.bytesLess m1.toList m2.toList)
theorem or_own (x y : Int) (k : Nat) (hk : 4 < k) : cmp_Or_int.f k [x, y] = some (if x = 0 then y else x) := by
  obtain ⟨k, rfl⟩ : ∃ m, k = m + 4 := ⟨k - 4, by omega⟩
  have w1 : wrap64 (0 + 1) = 1 := by decide +kernel
  have w2 : wrap64 (1 + 1) = 2 := by decide +kernel
  have r0 : rd [x, y] 0 = x := rfl
  have r1 : rd [x, y] 1 = y := rfl
  have hl : (([x, y] : List Int).length : Int) = 2 := rfl
  unfold cmp_Or_int.f
  rw [cmp_Or_int.l0, hl, if_pos (by decide), if_pos (by decide), if_pos (by decide), r0]
  by_cases h : x = 0
  · rw [if_pos h, if_pos h, w1, cmp_Or_int.l0, hl, if_pos (by decide), if_pos (by decide), if_pos (by decide), r1]
    by_cases h2 : y = 0
    · rw [if_pos h2, w2, cmp_Or_int.l0, if_neg (by decide), h2]
    · rw [if_neg h2]
  · rw [if_neg h, if_neg h]
theorem ahead_own (m1 : ByteArray) (s1 : Int) (m2 : ByteArray) (s2 : Int) (k : Nat) (hk : 4 < k) : bound_Less.f k m1 s1 m2 s2 = some (ahead m1 s1 m2 s2) := by
  unfold bound_Less.f ahead
  rw [cmp_own]
  simp only [cmp_Compare_int64.f, cmp_isNaN_int64.f, bne_self_eq_false, Bool.false_eq_true, if_false, Option.bind_some]
  have hs : s1 < s2 ∨ s1 = s2 ∨ s2 < s1 := by omega
  rcases hs with h | rfl | h
  · rw [if_pos h]
    simp only [Option.bind_some]
    rw [or_own _ _ k hk]
    simp [h]
  · rw [if_neg (Int.lt_irrefl _), if_neg (Int.lt_irrefl _)]
    simp only [Option.bind_some]
    rw [or_own _ _ k hk]
    rcases three m1 m2 with ⟨h1, h2, h3⟩ | ⟨h1, h2, h3⟩ | ⟨h1, h2, h3⟩
    · simp [h1]
    · simp [h2, h3]
    · simp [h1, h2]
  · rw [if_neg (by omega), if_pos h]
    simp only [Option.bind_some]
    rw [or_own _ _ k hk]
    simp [show ¬ s1 < s2 by omega, show ¬ s1 = s2 by omega]
theorem ahead_ref (m1 : ByteArray) (s1 : Int) (m2 : ByteArray) (s2 : Int) (hm : m1.size ≤ 9223372036854775807) (k : Nat) (hk : 2 * m1.size + 1 < k) : palioref09_Less.f k m1 s1 m2 s2 = some (ahead m1 s1 m2 s2) := by
  unfold palioref09_Less.f ahead
  rw [less_ref m1 m2 hm k hk]
  by_cases h : s1 < s2
  · simp [h]
  · by_cases h2 : s1 = s2
    · simp [h2]
    · simp [h, h2]

/-! ### entries -/
abbrev En := ByteArray × Int
def ltE (a b : En) : Bool := ahead a.1 a.2 b.1 b.2
def eqE (a b : En) : Bool := a.1.toList == b.1.toList && a.2 == b.2
theorem toList_inj {a b : ByteArray} (h : a.toList = b.toList) : a = b := by
  rw [Go.ByteArray.toList_eq, Go.ByteArray.toList_eq] at h
  cases a; cases b
  congr 1
  exact Array.toList_inj.mp h
theorem eqE_iff {a b : En} : eqE a b = true ↔ a = b := by
  unfold eqE
  simp only [Bool.and_eq_true, beq_iff_eq]
  constructor
  · rintro ⟨h1, h2⟩
    exact Prod.ext (toList_inj h1) h2
  · rintro rfl
    exact ⟨rfl, rfl⟩
theorem ltE_irrefl (a : En) : ltE a a = false := by
  unfold ltE ahead
  simp [bl_irrefl]
theorem ltE_trans {a b c : En} (h : ltE a b = true) (h' : ltE b c = true) : ltE a c = true := by
  unfold ltE ahead at *
  simp only [Bool.or_eq_true, Bool.and_eq_true, decide_eq_true_eq] at *
  rcases h with h | ⟨h, h2⟩ <;> rcases h' with h' | ⟨h', h3⟩
  · exact .inl (by omega)
  · exact .inl (by omega)
  · exact .inl (by omega)
  · exact .inr ⟨by omega, bl_trans _ _ _ h2 h3⟩
theorem ltE_asymm {a b : En} (h : ltE a b = true) : ltE b a = false := by
  cases h' : ltE b a with
  | false => rfl
  | true => have := ltE_trans h h'; rw [ltE_irrefl] at this; cases this
theorem ltE_tri {a b : En} (h : ltE a b = false) (h' : ltE b a = false) : a = b := by
  unfold ltE ahead at h h'
  simp only [Bool.or_eq_false_iff, Bool.and_eq_false_iff, decide_eq_false_iff_not] at h h'
  have e : a.2 = b.2 := by omega
  have h1 := h.2.resolve_left (fun k => k e)
  have h2 := h'.2.resolve_left (fun k => k e.symm)
  exact Prod.ext (toList_inj (bl_tri _ _ h1 h2)) e
/-- A row in its order. -/
def Srt (L : List En) : Prop := L.Pairwise fun a b => ltE a b = true
/-- How many stand ahead. -/
def rank (e : En) : List En → Nat
  | [] => 0
  | a :: l => if ltE a e = true then rank e l + 1 else 0
theorem rank_le (e : En) : ∀ L : List En, rank e L ≤ L.length
  | [] => Nat.le_refl _
  | a :: l => by
    unfold rank
    have := rank_le e l
    split
    · simp only [List.length_cons]; omega
    · exact Nat.zero_le _
theorem rank_lt (e : En) : ∀ (L : List En), Srt L → ∀ (i : Nat) (h : i < L.length), ltE L[i] e = decide (i < rank e L)
  | [], _, i, h => by simp at h
  | a :: l, hs, i, h => by
    have hs' := List.pairwise_cons.mp hs
    unfold rank
    cases i with
    | zero =>
      by_cases ha : ltE a e = true
      · rw [if_pos ha]; simp [ha]
      · rw [if_neg ha]; simpa using ha
    | succ i =>
      have hi : i < l.length := by simpa using h
      have ih := rank_lt e l hs'.2 i hi
      show ltE l[i] e = _
      by_cases ha : ltE a e = true
      · rw [if_pos ha, ih]
        simp
      · rw [if_neg ha]
        have hal := hs'.1 l[i] (List.getElem_mem hi)
        have : ltE l[i] e = false := by
          cases h2 : ltE l[i] e with
          | false => rfl
          | true => exact absurd (ltE_trans hal h2) ha
        rw [this]; simp
/-- One is in a sorted row just where its rank tells. -/
theorem mem_rank (e : En) (L : List En) (hs : Srt L) : e ∈ L ↔ ∃ h : rank e L < L.length, L[rank e L] = e := by
  constructor
  · intro hm
    obtain ⟨i, hi, rfl⟩ := List.getElem_of_mem hm
    have h1 := rank_lt L[i] L hs i hi
    rw [ltE_irrefl] at h1
    have h2 : rank L[i] L ≤ i := by
      have := of_decide_eq_false h1.symm
      omega
    rcases Nat.lt_or_ge (rank L[i] L) i with h3 | h3
    · have h4 := List.pairwise_iff_getElem.mp hs (rank L[i] L) i (by omega) hi h3
      have h5 := rank_lt L[i] L hs (rank L[i] L) (by omega)
      rw [h4] at h5
      simp at h5
    · have h6 : rank L[i] L = i := by omega
      refine ⟨by omega, ?_⟩
      simp [h6]
  · rintro ⟨h, he⟩
    rw [← he]
    exact List.getElem_mem _
theorem srt_insert (e : En) (L : List En) (hs : Srt L) (hn : e ∉ L) : Srt (L.take (rank e L) ++ e :: L.drop (rank e L)) := by
  unfold Srt at *
  rw [List.pairwise_append, List.pairwise_cons]
  refine ⟨hs.sublist (List.take_sublist _ _), ⟨fun b hb => ?_, hs.sublist (List.drop_sublist _ _)⟩, fun a ha b hb => ?_⟩
  · obtain ⟨j, hj, rfl⟩ := List.getElem_of_mem hb
    rw [List.getElem_drop]
    have hjl : rank e L + j < L.length := by rw [List.length_drop] at hj; omega
    have h1 := rank_lt e L hs (rank e L + j) hjl
    rw [decide_eq_false (by omega)] at h1
    cases h2 : ltE e L[rank e L + j] with
    | true => rfl
    | false => exact absurd (List.getElem_mem hjl) (by rw [ltE_tri h1 h2]; exact hn)
  · obtain ⟨i, hi, rfl⟩ := List.getElem_of_mem ha
    have hil : i < rank e L := by rw [List.length_take] at hi; omega
    have hl := rank_le e L
    rw [List.getElem_take]
    have h1 := rank_lt e L hs i (by omega)
    rw [decide_eq_true hil] at h1
    rcases List.mem_cons.mp hb with rfl | hb
    · exact h1
    · obtain ⟨j, hj, rfl⟩ := List.getElem_of_mem hb
      rw [List.getElem_drop]
      exact List.pairwise_iff_getElem.mp hs i (rank e L + j) (by omega) (by rw [List.length_drop] at hj; omega) (by omega)
theorem srt_erase (L : List En) (hs : Srt L) (k : Nat) : Srt (L.eraseIdx k) := hs.sublist (List.eraseIdx_sublist _ _)
end Go.Proofs.Ytnlbdmiflihghaa.P
