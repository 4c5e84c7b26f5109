/- In whatever pieces bytes come, the same requests come out, and the same error, in plain Lean. Conditions: each theorem names its own. -/
import Derived.Test.YtjcbbmjmhfimcaaDoorPK9
import Derived.Test.YtjcbbmjmhfimcaaDoorPureDig
namespace Go.Proofs.YtjcbbmjmhfimcaaDoor.P
open Go.RowKit Go.Lib Go.Proofs.YtjcbbmjmhfimcaaDoorW.PrintWords Go.Proofs.YtjcbbmjmhfimcaaDoorW.PrintLast Go.Proofs.YtjcbbmjmhfimcaaDoorW.PrintMore

theorem app_list (s t : ByteArray) : (s ++ t).data.toList = s.data.toList ++ t.data.toList := by
  rw [ByteArray.data_append, Array.toList_append]
theorem app_extract (s t : ByteArray) (a b : Nat) (h : b ≤ s.size) : (s ++ t).extract a b = s.extract a b := by
  rw [extract_eq, extract_eq, app_list]
  congr 2
  rcases Nat.lt_or_ge a b with h1 | h1
  · rw [List.drop_append_of_le_length (by rw [← size_eq]; omega), List.take_append_of_le_length (by rw [List.length_drop, ← size_eq]; omega)]
  · rw [show b - a = 0 by omega, List.take_zero, List.take_zero]
theorem app_tail (s t : ByteArray) (a : Nat) (h : a ≤ s.size) : (s ++ t).extract a (s ++ t).size = s.extract a s.size ++ t := by
  rw [← mk_of ((s ++ t).extract a (s ++ t).size), ← mk_of (s.extract a s.size ++ t)]
  congr 1
  rw [app_list, extract_eq, extract_eq, app_list]
  show List.take _ (List.drop a (s.data.toList ++ t.data.toList)) = List.take _ (List.drop a s.data.toList) ++ t.data.toList
  rw [List.drop_append_of_le_length (by rw [← size_eq]; exact h), List.take_of_length_le, List.take_of_length_le]
  · rw [List.length_drop, ← size_eq]; exact Nat.le_refl _
  · rw [List.length_append, List.length_drop, ByteArray.size_append, ← size_eq, ← size_eq]; omega
theorem occ_app {l m sub : List UInt8} {i : Nat} (h : i + sub.length ≤ l.length) : occAt (l ++ m) sub i = occAt l sub i := by
  rw [occAt_iff_take _ _ _ (by rw [List.length_append]; omega), occAt_iff_take _ _ _ h, List.drop_append_of_le_length (by omega), List.take_append_of_le_length (by rw [List.length_drop]; omega)]
theorem index_app_hit (s t sub : ByteArray) (i : Nat) (hs : sub.data.toList ≠ []) (h : indexB s sub = i) : indexB (s ++ t) sub = i := by
  have h' : index s.data.toList sub.data.toList = i := h
  show index (s ++ t).data.toList sub.data.toList = i
  rw [app_list]
  rcases index_spec s.data.toList sub.data.toList with ⟨h1, _⟩ | ⟨j, h1, h2, h3, h4⟩
  · rw [h1] at h'; omega
  · obtain rfl : j = i := by rw [h1] at h'; omega
    have hroom := occAt_room h3
    have hr : j + sub.data.toList.length ≤ s.data.toList.length := by rcases hroom with h | h; exact h; exact absurd h hs
    refine index_hit ?_ (by rw [List.length_append]; omega) (by rw [occ_app hr]; exact h3)
    intro k hk
    rw [occ_app (by omega)]
    exact h4 k hk
theorem index_app_miss (s t sub : ByteArray) (hs : 0 < sub.size) (h : indexB s sub = -1) : indexB (s ++ t) sub = -1 ∨ ∃ j : Nat, indexB (s ++ t) sub = j ∧ s.size < j + sub.size ∧ j + sub.size ≤ s.size + t.size := by
  have h' : index s.data.toList sub.data.toList = -1 := h
  rcases index_spec (s ++ t).data.toList sub.data.toList with ⟨h1, _⟩ | ⟨j, h1, h2, h3, h4⟩
  · exact .inl h1
  · refine .inr ⟨j, h1, ?_, ?_⟩
    · rcases Nat.lt_or_ge s.size (j + sub.size) with h5 | h5
      · exact h5
      · exfalso
        rw [app_list, occ_app (by rw [← size_eq, ← size_eq]; exact h5)] at h3
        rcases index_spec s.data.toList sub.data.toList with ⟨_, h6⟩ | ⟨i, h6, _⟩
        · have := h6 j (by rw [← size_eq]; omega)
          rw [h3] at this
          cases this
        · rw [h6] at h'; omega
    · have := index_room (s ++ t).data.toList sub.data.toList (by rw [h1]; omega)
      rw [h1, ← size_eq, ← size_eq, ByteArray.size_append] at this
      omega
theorem numOf_long (x : ByteArray) (h : 20 < x.size) : (numOf x).2 ≠ 0 := by
  have key : ∀ (b : Bool) (r : ByteArray), 20 ≤ r.size → (parseOf b r).2 ≠ 0 := by
    intro b r hr
    have hd : digitsB r = false := by
      unfold digitsB
      have : decide (r.size < 20) = false := decide_eq_false (by omega)
      rw [this, Bool.and_false, Bool.false_and]
    unfold parseOf
    rw [hd, if_neg (by simp)]
    simp
  unfold numOf
  split
  · exact key true _ (by rw [ByteArray.size_extract]; omega)
  · exact key false _ (by omega)
theorem head_app (s t : ByteArray) (lo hi : Int) : ((headB s lo hi).2.1 = 0 → headB (s ++ t) lo hi = ((headB s lo hi).1, 0, (headB s lo hi).2.2 ++ t)) ∧ ((headB s lo hi).2.1 = 40 → (headB (s ++ t) lo hi).2.1 = 40) ∧ ((headB s lo hi).2.1 = 0 ∨ (headB s lo hi).2.1 = 31 ∨ (headB s lo hi).2.1 = 40) := by
  rcases indexB_cases s crlf with hm | ⟨i, hi1, hi2⟩
  · have hH : headB s lo hi = (0, if 32 < s.size then 40 else 31, s) := by unfold headB; rw [if_pos hm]
    rw [hH]
    by_cases h32 : 32 < s.size
    · simp only [if_pos h32]
      refine ⟨fun h => (by cases h), fun _ => ?_, by simp⟩
      rcases index_app_miss s t crlf (by decide) hm with h | ⟨j, h1, h2, h3⟩
      · unfold headB
        rw [if_pos h]
        simp only
        rw [if_pos (by rw [ByteArray.size_append]; omega)]
      · have hc : crlf.size = 2 := rfl
        unfold headB
        rw [if_neg (by omega), h1, Int.toNat_natCast, if_pos (.inl (numOf_long _ (by rw [ByteArray.size_extract, ByteArray.size_append]; omega)))]
    · simp only [if_neg h32]
      exact ⟨fun h => (by cases h), fun h => (by cases h), by simp⟩
  · have hc : crlf.size = 2 := rfl
    have h2 := index_app_hit s t crlf i (by decide) hi1
    have e1 : (s ++ t).extract 1 i = s.extract 1 i := app_extract s t 1 i (by omega)
    have e2 : (s ++ t).extract (i + 2) (s ++ t).size = s.extract (i + 2) s.size ++ t := app_tail s t (i + 2) (by omega)
    have e0 : ∀ x : ByteArray, indexB x crlf = i → headB x lo hi = if (numOf (x.extract 1 i)).2 ≠ 0 ∨ hi < (numOf (x.extract 1 i)).1 ∨ (numOf (x.extract 1 i)).1 < lo then (0, 40, x) else (max (numOf (x.extract 1 i)).1 (-1), 0, x.extract (i + 2) x.size) := fun x hx => by
      unfold headB
      rw [if_neg (by omega), hx]
      rfl
    rw [e0 s hi1, e0 (s ++ t) h2, e1, e2]
    split
    · exact ⟨fun h => (by cases h), fun _ => rfl, by simp⟩
    · exact ⟨fun _ => rfl, fun h => (by cases h), by simp⟩
theorem bt_app (s t : ByteArray) (h : 0 < s.size) : bt (s ++ t) 0 = bt s 0 := by
  have h1 := bt_get s 0 h
  have h2 := bt_get (s ++ t) 0 (by rw [ByteArray.size_append]; omega)
  rw [show ((0 : Nat) : Int) = 0 from rfl] at h1 h2
  rw [h1, h2]
  congr 2
  rw [List.getElem_of_eq (app_list s t)]
  exact List.getElem_append_left _
theorem bulk_app (s t : ByteArray) : ((bulkB s).2.1 = 0 → bulkB (s ++ t) = ((bulkB s).1, 0, (bulkB s).2.2 ++ t)) ∧ ((bulkB s).2.1 = 40 → (bulkB (s ++ t)).2.1 = 40) ∧ ((bulkB s).2.1 = 0 ∨ (bulkB s).2.1 = 31 ∨ (bulkB s).2.1 = 40) := by
  by_cases h0 : s.size = 0
  · have hH : bulkB s = (⟨#[]⟩, 31, s) := by unfold bulkB; rw [if_pos h0]
    rw [hH]
    exact ⟨fun h => (by cases h), fun h => (by cases h), by simp⟩
  have h0' : ¬ (s ++ t).size = 0 := by rw [ByteArray.size_append]; omega
  by_cases h36 : bt s 0 ≠ 36
  · have hH : bulkB s = (⟨#[]⟩, 40, s) := by unfold bulkB; rw [if_neg h0, if_pos h36]
    rw [hH]
    refine ⟨fun h => (by cases h), fun _ => ?_, by simp⟩
    unfold bulkB
    rw [if_neg h0', if_pos (by rw [bt_app s t (by omega)]; exact h36)]
  have h36' : ¬ bt (s ++ t) 0 ≠ 36 := by rw [bt_app s t (by omega)]; exact h36
  obtain ⟨k1, k2, k3⟩ := head_app s t 0 512
  have hbd := headB_bd s 0 512
  unfold bulkB
  rw [if_neg h0, if_neg h0', if_neg h36, if_neg h36']
  generalize headB s 0 512 = p at k1 k2 k3 hbd
  obtain ⟨n, e, r⟩ := p
  simp only at k1 k2 k3 hbd ⊢
  rcases k3 with rfl | rfl | rfl
  · obtain ⟨b1, b2⟩ := hbd rfl (by omega)
    rw [k1 rfl]
    simp only [ne_eq, not_true_eq_false, if_false]
    by_cases c1 : r.size < n.toNat + 2
    · rw [if_pos c1]
      exact ⟨fun h => (by cases h), fun h => (by cases h), by simp⟩
    · have c1' : ¬ (r ++ t).size < n.toNat + 2 := by rw [ByteArray.size_append]; omega
      rw [if_neg c1, if_neg c1', app_extract r t _ _ (by omega), app_extract r t 0 _ (by omega), app_tail r t _ (by omega)]
      by_cases c2 : r.extract n.toNat (n.toNat + 2) = crlf
      · simp only [c2, not_true_eq_false, if_false]
        exact ⟨fun _ => trivial, fun h => (by cases h), by simp⟩
      · simp only [c2, not_false_eq_true, if_true]
        exact ⟨fun h => (by cases h), fun _ => trivial, by simp⟩
  · simp only [ne_eq, show ¬ (31 : Int) = 0 by decide, not_false_eq_true, if_true]
    exact ⟨fun h => (by cases h), fun h => (by cases h), by simp⟩
  · have := k2 rfl
    simp only [ne_eq, show ¬ (40 : Int) = 0 by decide, not_false_eq_true, if_true, this]
    exact ⟨fun h => (by cases h), fun _ => trivial, by simp⟩
theorem wrongAt_ok {x : ByteArray × Int} (t : List (ByteArray × Int)) (hx : x.2 = 0) : wrongAt (x :: t) = wrongAt t := by
  show (if x.2 ≠ 0 then x.2 else wrongAt t) = wrongAt t
  rw [if_neg (fun h => h hx)]
theorem wrongAt_no {x : ByteArray × Int} (t : List (ByteArray × Int)) (hx : x.2 ≠ 0) : wrongAt (x :: t) = x.2 := by
  show (if x.2 ≠ 0 then x.2 else wrongAt t) = x.2
  rw [if_pos hx]
theorem wrongAt_append (l m : List (ByteArray × Int)) : wrongAt (l ++ m) = if wrongAt l ≠ 0 then wrongAt l else wrongAt m := by
  induction l with
  | nil => rw [if_neg (fun h => h rfl)]; rfl
  | cons x t ih =>
    rw [List.cons_append]
    by_cases hx : x.2 = 0
    · rw [wrongAt_ok _ hx, wrongAt_ok _ hx, ih]
    · rw [wrongAt_no _ hx, wrongAt_no _ hx, if_pos hx]
theorem items_app (s t : ByteArray) : ∀ n : Nat, (wrongAt (itemsB s n) = 0 → itemsB (s ++ t) n = itemsB s n ∧ restB (s ++ t) n = restB s n ++ t) ∧ (wrongAt (itemsB s n) = 40 → wrongAt (itemsB (s ++ t) n) = 40) ∧ (wrongAt (itemsB s n) = 0 ∨ wrongAt (itemsB s n) = 31 ∨ wrongAt (itemsB s n) = 40)
  | 0 => ⟨fun _ => ⟨rfl, rfl⟩, fun h => (by cases h), .inl rfl⟩
  | n + 1 => by
    obtain ⟨h1, h2, h3⟩ := items_app s t n
    have hw := wrongAt_append (itemsB s n) [itemB s n]
    have hw' := wrongAt_append (itemsB (s ++ t) n) [itemB (s ++ t) n]
    rw [← itemsB_succ] at hw hw'
    obtain ⟨b1, b2, b3⟩ := bulk_app (restB s n) t
    have hone : ∀ x : ByteArray × Int, wrongAt [x] = x.2 := fun x => by
      by_cases hx : x.2 = 0 <;> simp [wrongAt, hx]
    rw [hone] at hw hw'
    by_cases hz : wrongAt (itemsB s n) = 0
    · obtain ⟨e1, e2⟩ := h1 hz
      have hi : itemB (s ++ t) n = ((bulkB (restB s n ++ t)).1, (bulkB (restB s n ++ t)).2.1) := by unfold itemB; rw [e2]
      have hi0 : (itemB s n).2 = (bulkB (restB s n)).2.1 := rfl
      rw [if_neg (by simp [hz])] at hw
      rw [e1, if_neg (by simp [hz])] at hw'
      refine ⟨fun h => ?_, fun h => ?_, by rw [hw, hi0]; exact b3⟩
      · rw [hw, hi0] at h
        have hb := b1 h
        refine ⟨?_, ?_⟩
        · rw [itemsB_succ, itemsB_succ, e1]
          congr 2
          rw [hi, hb]
          show _ = ((bulkB (restB s n)).1, (bulkB (restB s n)).2.1)
          rw [h]
        · show (bulkB (restB (s ++ t) n)).2.2 = (bulkB (restB s n)).2.2 ++ t
          rw [e2, hb]
      · rw [hw, hi0] at h
        rw [hw', hi]
        exact b2 h
    · rw [if_pos hz] at hw
      refine ⟨fun h => absurd (hw ▸ h) hz, fun h => ?_, by rw [hw]; exact h3⟩
      rw [hw] at h
      have h4 := h2 h
      rw [hw', if_pos (by rw [h4]; decide), h4]
theorem bulks_app (s t : ByteArray) : ((bulksB s).2.1 = 0 → bulksB (s ++ t) = ((bulksB s).1, 0, (bulksB s).2.2 ++ t)) ∧ ((bulksB s).2.1 = 40 → (bulksB (s ++ t)).2.1 = 40) ∧ ((bulksB s).2.1 = 0 ∨ (bulksB s).2.1 = 31 ∨ (bulksB s).2.1 = 40) := by
  obtain ⟨k1, k2, k3⟩ := head_app s t (-9223372036854775808) 64
  unfold bulksB
  generalize headB s (-9223372036854775808) 64 = p at k1 k2 k3
  obtain ⟨n, e, r⟩ := p
  simp only at k1 k2 k3 ⊢
  rcases k3 with rfl | rfl | rfl
  · rw [k1 rfl]
    simp only [ne_eq, not_true_eq_false, if_false]
    obtain ⟨i1, i2, i3⟩ := items_app r t n.toNat
    rcases i3 with hw | hw | hw
    · obtain ⟨j1, j2⟩ := i1 hw
      rw [j1, j2, hw]
      simp
    · rw [hw]
      simp
    · rw [hw, i2 hw]
      simp
  · simp
  · rw [k2 rfl]
    simp
theorem inline_app (s t : ByteArray) : ((inlineB s).2.1 = 0 → inlineB (s ++ t) = ((inlineB s).1, 0, (inlineB s).2.2 ++ t)) ∧ ((inlineB s).2.1 = 40 → (inlineB (s ++ t)).2.1 = 40) ∧ ((inlineB s).2.1 = 0 ∨ (inlineB s).2.1 = 31 ∨ (inlineB s).2.1 = 40) := by
  have hc : lf.size = 1 := rfl
  rcases indexB_cases s lf with hm | ⟨i, hi1, hi2⟩
  · have hH : inlineB s = ([], if 1024 < s.size then 40 else 31, s) := by unfold inlineB; rw [if_pos hm]
    rw [hH]
    by_cases h32 : 1024 < s.size
    · simp only [if_pos h32]
      refine ⟨fun h => (by cases h), fun _ => ?_, by simp⟩
      rcases index_app_miss s t lf (by decide) hm with h | ⟨j, h1, h2, h3⟩
      · unfold inlineB
        rw [if_pos h]
        simp only
        rw [if_pos (by rw [ByteArray.size_append]; omega)]
      · unfold inlineB
        rw [if_neg (by omega), h1, Int.toNat_natCast, if_pos (.inl (by omega))]
    · simp only [if_neg h32]
      exact ⟨fun h => (by cases h), fun h => (by cases h), by simp⟩
  · have h2 := index_app_hit s t lf i (by decide) hi1
    have e1 : (s ++ t).extract 0 i = s.extract 0 i := app_extract s t 0 i (by omega)
    have e2 : (s ++ t).extract (i + 1) (s ++ t).size = s.extract (i + 1) s.size ++ t := app_tail s t (i + 1) (by omega)
    have e0 : ∀ x : ByteArray, indexB x lf = i → inlineB x = if 1024 < i ∨ 64 < (wordsB (trimB (x.extract 0 i))).length then ([], 40, x) else (wordsB (trimB (x.extract 0 i)), 0, x.extract (i + 1) x.size) := fun x hx => by
      unfold inlineB
      rw [if_neg (by omega), hx]
      rfl
    rw [e0 s hi1, e0 (s ++ t) h2, e1, e2]
    split
    · exact ⟨fun h => (by cases h), fun _ => rfl, by simp⟩
    · exact ⟨fun _ => rfl, fun h => (by cases h), by simp⟩
theorem split_app (s t : ByteArray) : ((splitB s).2.1 = 0 → splitB (s ++ t) = ((splitB s).1, 0, (splitB s).2.2 ++ t)) ∧ ((splitB s).2.1 = 40 → (splitB (s ++ t)).2.1 = 40) ∧ ((splitB s).2.1 = 0 ∨ (splitB s).2.1 = 31 ∨ (splitB s).2.1 = 40) := by
  by_cases h0 : s.size = 0
  · have hH : splitB s = ([], 31, s) := by unfold splitB; rw [if_pos h0]
    rw [hH]
    exact ⟨fun h => (by cases h), fun h => (by cases h), by simp⟩
  have h0' : ¬ (s ++ t).size = 0 := by rw [ByteArray.size_append]; omega
  have key : ∀ (q q' : List ByteArray × Int × ByteArray), ((q.2.1 = 0 → q' = (q.1, 0, q.2.2 ++ t)) ∧ (q.2.1 = 40 → q'.2.1 = 40) ∧ (q.2.1 = 0 ∨ q.2.1 = 31 ∨ q.2.1 = 40)) →
      splitB s = (if q.2.1 ≠ 0 then ([], q.2.1, s) else q) → splitB (s ++ t) = (if q'.2.1 ≠ 0 then ([], q'.2.1, s ++ t) else q') →
      ((splitB s).2.1 = 0 → splitB (s ++ t) = ((splitB s).1, 0, (splitB s).2.2 ++ t)) ∧ ((splitB s).2.1 = 40 → (splitB (s ++ t)).2.1 = 40) ∧ ((splitB s).2.1 = 0 ∨ (splitB s).2.1 = 31 ∨ (splitB s).2.1 = 40) := by
    rintro ⟨a, e, r⟩ q' ⟨h1, h2, h3⟩ e1 e2
    simp only at h1 h2 h3 e1
    rw [e1, e2]
    rcases h3 with rfl | rfl | rfl
    · rw [h1 rfl]
      simp
    · simp
    · rw [h2 rfl]
      simp
  have hbt := bt_app s t (by omega)
  by_cases h42 : bt s 0 = 42
  · have h42' : bt (s ++ t) 0 = 42 := hbt.trans h42
    exact key (bulksB s) (bulksB (s ++ t)) (bulks_app s t) (by unfold splitB; rw [if_neg h0, if_pos h42]) (by unfold splitB; rw [if_neg h0', if_pos h42'])
  · have h42' : ¬ bt (s ++ t) 0 = 42 := by rw [hbt]; exact h42
    exact key (inlineB s) (inlineB (s ++ t)) (inline_app s t) (by unfold splitB; rw [if_neg h0, if_neg h42]) (by unfold splitB; rw [if_neg h0', if_neg h42'])
end Go.Proofs.YtjcbbmjmhfimcaaDoor.P
