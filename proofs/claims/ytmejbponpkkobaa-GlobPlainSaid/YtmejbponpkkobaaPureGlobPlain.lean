/- What is plain, quoted, and how many characters there are: the program and the document's answer tell the same. Conditions: none. -/
import Derived.Test.YtmejbponpkkobaaPx7
import Derived.Test.YtmejbponpkkobaaPureMatch
namespace Go.Proofs.Ytmejbponpkkobaa.Pure
open Go.RowKit Go.Proofs.YtmejbponpkkobaaW.PrintWords Go.Proofs.YtmejbponpkkobaaW.PrintLast Go.Proofs.Ytmejbponpkkobaa.P Go.Proofs.YtmejbponpkkobaaW.PrintMore

theorem plainShown : paliolaw02_shown.f = some true := by
  unfold paliolaw02_shown.f
  rw [shown1, shown2, shown3, shown4]
  rfl
theorem special_sign (b : Int) : palioref02_special.f b = some (sign b) := by
  unfold palioref02_special.f sign
  by_cases h1 : b = 42
  · rw [if_pos h1, h1]; rfl
  · rw [if_neg h1]
    by_cases h2 : b = 63
    · rw [if_pos h2, h2]; rfl
    · rw [if_neg h2]
      by_cases h3 : b = 91
      · rw [if_pos h3, h3]; rfl
      · rw [if_neg h3, decide_eq_false h1, decide_eq_false h2, decide_eq_false h3]
        congr 1
theorem drop_bt (s : ByteArray) (i : Nat) (h : i < s.size) : ∃ x : UInt8, bt s (i : Int) = (x.toNat : Int) ∧ s.data.toList.drop i = x :: s.data.toList.drop (i + 1) := by
  refine ⟨s[i]'h, ?_, ?_⟩
  · unfold bt
    rw [dif_pos (by rw [Int.toNat_natCast]; exact h)]
    simp only [Int.toNat_natCast]
  · exact List.drop_eq_getElem_cons (by exact h)
theorem plain_l (s : ByteArray) (hs : s.size ≤ 1000) : ∀ (m i : Nat), i + m = s.size → palioref02_Plain.l0 (m + 1) s (i : Int) = some (!(s.data.toList.drop i).any signB)
  | 0, i, h => by
    rw [palioref02_Plain.l0, if_neg (by omega), List.drop_eq_nil_of_le (by show s.size ≤ i; omega)]
    rfl
  | m + 1, i, h => by
    have ih := plain_l s hs m (i + 1) (by omega)
    obtain ⟨x, hx, hd⟩ := drop_bt s i (by omega)
    rw [palioref02_Plain.l0, if_pos (by omega), if_pos (by omega), special_sign, hx, hd, List.any_cons, wrap64_small _ (by omega) (by omega), show (i : Int) + 1 = ((i + 1 : Nat) : Int) by omega, ih]
    show (if sign (x.toNat : Int) = true then some false else _) = some (!(signB x || _))
    rw [show sign (x.toNat : Int) = signB x from rfl]
    cases signB x with
    | true => rfl
    | false => simp
theorem quote_l (s : ByteArray) (hs : s.size ≤ 1000) : ∀ (m i : Nat) (acc : List Int), i + m = s.size → acc.length ≤ 2 * i → palioref02_Quote.l0 (m + 1) s acc (i : Int) = some (strOfNums (acc ++ (qt (s.data.toList.drop i)).map (fun b => (b.toNat : Int))))
  | 0, i, acc, h, _ => by
    rw [palioref02_Quote.l0, if_neg (by omega), List.drop_eq_nil_of_le (by show s.size ≤ i; omega)]
    simp [qt]
  | m + 1, i, acc, h, ha => by
    obtain ⟨x, hx, hd⟩ := drop_bt s i (by omega)
    rw [palioref02_Quote.l0, if_pos (by omega), if_pos (by omega), special_sign, hx, hd, wrap64_small _ (by omega) (by omega), show (i : Int) + 1 = ((i + 1 : Nat) : Int) by omega]
    rw [show sign (x.toNat : Int) = signB x from rfl]
    have hq : qt (x :: s.data.toList.drop (i + 1)) = qb x ++ qt (s.data.toList.drop (i + 1)) := by unfold qt; rw [List.flatMap_cons]
    rw [hq, List.map_append]
    cases hsg : signB x with
    | true =>
      simp only [Option.bind_some, if_true]
      rw [if_pos (by omega), if_pos (by rw [List.length_append, List.length_singleton]; omega), quote_l s hs m (i + 1) _ (by omega) (by simp only [List.length_append, List.length_singleton]; omega)]
      unfold qb
      rw [if_pos hsg]
      simp
    | false =>
      simp only [Option.bind_some, Bool.false_eq_true, if_false]
      rw [if_pos (by omega), quote_l s hs m (i + 1) _ (by omega) (by simp only [List.length_append, List.length_singleton]; omega)]
      unfold qb
      rw [if_neg (by rw [hsg]; simp)]
      simp
theorem nums_bytes (l : List UInt8) : strOfNums (l.map (fun b => (b.toNat : Int))) = ⟨l.toArray⟩ := by
  rw [strOfNums_list, List.map_map]
  congr 2
  conv => rhs; rw [← List.map_id l]
  refine List.map_congr_left (fun x _ => ?_)
  simp
theorem GlobPlain : ∀ (a0 : ByteArray), a0.size ≤ 140737488351232 → ∃ k, paliolaw02_GlobPlain.f k a0 = some true := by
  intro a0 _
  have hc : ∃ s : ByteArray, paliolaw02_cut.f a0 = some s ∧ s.size ≤ 520 := by
    unfold paliolaw02_cut.f
    have h1 : ((mn (a0.size : Int) 520) : Int).toNat ≤ 520 ∧ 0 ≤ mn (a0.size : Int) 520 ∧ mn (a0.size : Int) 520 ≤ (a0.size : Int) := by unfold mn; split <;> omega
    rw [if_pos h1.2.1, if_pos h1.2.2]
    exact ⟨_, rfl, by rw [ByteArray.size_extract]; omega⟩
  obtain ⟨s, hcut, hs⟩ := hc
  refine ⟨s.size + 1, ?_⟩
  have h1 := plain_l s (by omega) s.size 0 (by omega)
  have h2 := quote_l s (by omega) s.size 0 [] (by omega) (by simp)
  rw [List.nil_append, List.drop_zero, nums_bytes] at h2
  rw [List.drop_zero] at h1
  unfold paliolaw02_GlobPlain.f
  rw [plainShown, hcut]
  have e1 : palioref02_Plain.f (s.size + 1) s = some (!s.data.toList.any signB) := h1
  have e2 : palioref02_Quote.f (s.size + 1) s = some ⟨(qt s.data.toList).toArray⟩ := h2
  have e3 : glob_Plain.f s = some (!s.data.toList.any signB) := by unfold glob_Plain.f; rw [if_pos (by omega)]
  have e4 : glob_Quote.f s = some ⟨(qt s.data.toList).toArray⟩ := by unfold glob_Quote.f; rw [if_pos (by omega)]
  have e5 : glob_Count.f s = some ((runes s).length : Int) := by unfold glob_Count.f; rw [if_pos (by omega)]
  have e6 : palioref02_Count.f s = some ((runes s).length : Int) := by unfold palioref02_Count.f; rw [if_pos (by omega)]
  rw [Option.bind_some, Option.bind_some, if_pos rfl, e3, Option.bind_some, e1, Option.bind_some, if_pos (by simp), e4, Option.bind_some, e2, Option.bind_some, if_pos rfl, e5, Option.bind_some, e6, Option.bind_some]
  simp
end Go.Proofs.Ytmejbponpkkobaa.Pure
