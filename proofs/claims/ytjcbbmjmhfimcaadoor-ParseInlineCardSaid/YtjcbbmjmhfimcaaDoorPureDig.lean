/- Numbers and digits are one to one: what a number is written as is parsed as it, and what is parsed is written as it stood. Conditions: each theorem names its own. -/
import Derived.Test.YtjcbbmjmhfimcaaDoorPH2
import Derived.Lib.ItoaNum
namespace Go.Proofs.YtjcbbmjmhfimcaaDoor.P
open Go.RowKit Go.Lib Go.Proofs.YtjcbbmjmhfimcaaDoorW.PrintWords Go.Proofs.YtjcbbmjmhfimcaaDoorW.PrintLast Go.Proofs.YtjcbbmjmhfimcaaDoorW.PrintMore

/-- The number of digits. -/
def valL (l : List UInt8) : Nat := l.foldl (fun n b => 10 * n + (b.toNat - 48)) 0
theorem valL_snoc (l : List UInt8) (b : UInt8) : valL (l ++ [b]) = 10 * valL l + (b.toNat - 48) := by unfold valL; rw [List.foldl_append]; rfl
def isDig (b : UInt8) : Prop := 48 ≤ b.toNat ∧ b.toNat ≤ 57
theorem byte_of (u : Nat) (h : u < 10) : (UInt8.ofNat (48 + u)).toNat = 48 + u := by rw [UInt8.toNat_ofNat']; omega
theorem dec_facts : ∀ u : Nat, (∀ b, b ∈ decDigits u → isDig b) ∧ valL (decDigits u) = u ∧ decDigits u ≠ [] ∧ (1 < (decDigits u).length → ∀ b, (decDigits u).head? = some b → b.toNat ≠ 48) ∧ (0 < u → ∀ b, (decDigits u).head? = some b → b.toNat ≠ 48) := by
  intro u
  induction u using Nat.strongRecOn with
  | _ u ih =>
    rw [decDigits]
    by_cases h : u < 10
    · rw [dif_pos h]
      have hb := byte_of u h
      refine ⟨fun b hm => ?_, ?_, by simp, fun hl => by simp at hl, fun h0 b hb' => ?_⟩
      · rw [List.mem_singleton.1 hm]
        exact ⟨by omega, by omega⟩
      · have := valL_snoc [] (UInt8.ofNat (48 + u))
        rw [List.nil_append] at this
        rw [this, hb]
        show 10 * 0 + _ = _
        omega
      · simp only [List.head?_cons, Option.some.injEq] at hb'
        rw [← hb', hb]
        omega
    · rw [dif_neg h]
      obtain ⟨i1, i2, i3, i4, i5⟩ := ih (u / 10) (by omega)
      have hb := byte_of (u % 10) (by omega)
      have hh : (decDigits (u / 10) ++ [UInt8.ofNat (48 + u % 10)]).head? = (decDigits (u / 10)).head? := by
        cases hd : decDigits (u / 10) with
        | nil => exact absurd hd i3
        | cons a t => rfl
      refine ⟨fun b hm => ?_, ?_, by simp, fun _ b hb' => ?_, fun _ b hb' => ?_⟩
      · rcases List.mem_append.1 hm with hm | hm
        · exact i1 b hm
        · rw [List.mem_singleton.1 hm]
          exact ⟨by omega, by omega⟩
      · rw [valL_snoc, i2, hb]
        omega
      · rw [hh] at hb'
        exact i5 (by omega) b hb'
      · rw [hh] at hb'
        exact i5 (by omega) b hb'
theorem dec_len (u : Nat) : ∀ k, u < 10 ^ (k + 1) → (decDigits u).length ≤ k + 1 := by
  induction u using Nat.strongRecOn with
  | _ u ih =>
    intro k hk
    rw [decDigits]
    by_cases h : u < 10
    · rw [dif_pos h]; simp
    · rw [dif_neg h]
      cases k with
      | zero => simp at hk; omega
      | succ k =>
        have := ih (u / 10) (by omega) k (by rw [Nat.pow_succ] at hk; omega)
        rw [List.length_append, List.length_singleton]
        omega
theorem dec_back : ∀ (n : Nat) (l : List UInt8), l.length = n + 1 → (∀ b, b ∈ l → isDig b) → (1 < l.length → ∀ b, l.head? = some b → b.toNat ≠ 48) → decDigits (valL l) = l
  | 0, l, hn, hd, _ => by
    obtain ⟨b, rfl⟩ : ∃ b, l = [b] := by
      cases l with
      | nil => simp at hn
      | cons b t => cases t with
        | nil => exact ⟨b, rfl⟩
        | cons c t => simp at hn
    obtain ⟨h1, h2⟩ := hd b List.mem_cons_self
    have hv : valL [b] = b.toNat - 48 := by
      have := valL_snoc [] b
      rw [List.nil_append] at this
      rw [this]
      show 10 * 0 + _ = _
      omega
    rw [hv, decDigits, dif_pos (by omega), show 48 + (b.toNat - 48) = b.toNat by omega]
    simp
  | n + 1, l, hn, hd, hz => by
    have hne : l ≠ [] := by intro e; rw [e] at hn; simp at hn
    obtain ⟨l', b, rfl⟩ : ∃ l' b, l = l' ++ [b] := ⟨l.dropLast, l.getLast hne, (List.dropLast_concat_getLast hne).symm⟩
    rw [List.length_append, List.length_singleton] at hn
    have hl' : l'.length = n + 1 := by omega
    have hne' : l' ≠ [] := by intro e; rw [e] at hl'; simp at hl'
    obtain ⟨a, t, rfl⟩ : ∃ a t, l' = a :: t := by
      cases l' with
      | nil => exact absurd rfl hne'
      | cons a t => exact ⟨a, t, rfl⟩
    have ha : a.toNat ≠ 48 := hz (by rw [List.length_append, List.length_singleton]; omega) a rfl
    have hda := hd a (by simp)
    have ih := dec_back n (a :: t) hl' (fun c hc => hd c (List.mem_append_left _ hc)) (fun _ c hc => by
      simp only [List.head?_cons, Option.some.injEq] at hc
      rw [← hc]
      exact ha)
    have hb := hd b (by simp)
    have hpos : 1 ≤ valL (a :: t) := by
      rcases Nat.lt_or_ge 0 (valL (a :: t)) with h | h
      · exact h
      · have h0 : valL (a :: t) = 0 := by omega
        rw [h0, decDigits, dif_pos (by omega)] at ih
        injection ih with e1 e2
        rw [← e1] at ha
        exact absurd (by rw [byte_of 0 (by omega)]) ha
    unfold isDig at hb
    rw [valL_snoc, decDigits, dif_neg (by omega), show (10 * valL (a :: t) + (b.toNat - 48)) / 10 = valL (a :: t) by omega, ih, show 48 + (10 * valL (a :: t) + (b.toNat - 48)) % 10 = b.toNat by omega]
    simp
/-- The digits of a text, as a list tells them. -/
def goodL (l : List UInt8) : Prop := 0 < l.length ∧ l.length < 20 ∧ (∀ b, b ∈ l → isDig b) ∧ (1 < l.length → ∀ b, l.head? = some b → b.toNat ≠ 48)
theorem bt_get (s : ByteArray) (i : Nat) (h : i < s.size) : bt s (i : Int) = ((s.data.toList[i]'h).toNat : Int) := by
  unfold bt
  rw [dif_pos (by rw [Int.toNat_natCast]; exact h)]
  simp only [Int.toNat_natCast]
  rfl
theorem digN_val (s : ByteArray) (hd : ∀ b, b ∈ s.data.toList → isDig b) : ∀ k, k ≤ s.size → digN s k = (valL (s.data.toList.take k) : Int)
  | 0, _ => rfl
  | k + 1, h => by
    have ih := digN_val s hd k (by omega)
    have hb := hd _ (List.getElem_mem (l := s.data.toList) (n := k) h)
    unfold isDig at hb
    rw [digN, ih, bt_get s k h, List.take_succ_eq_append_getElem (show k < s.data.toList.length from h), valL_snoc]
    omega
theorem digits_good (s : ByteArray) : digitsB s = true ↔ goodL s.data.toList := by
  rw [digitsB_iff]
  have hsz : s.data.toList.length = s.size := rfl
  constructor
  · rintro ⟨h1, h2, h3⟩
    refine ⟨by omega, by omega, fun b hb => ?_, fun hl b hb => ?_⟩
    · obtain ⟨i, hi, rfl⟩ := List.mem_iff_getElem.1 hb
      have := h3 i (by omega)
      unfold badAt at this
      rw [bt_get s i (by omega)] at this
      simp only [Bool.or_eq_false_iff, decide_eq_false_iff_not] at this
      unfold isDig
      omega
    · have := h3 0 h1
      unfold badAt at this
      rw [show ((0 : Nat) : Int) = (0 : Nat) from rfl, bt_get s 0 h1] at this
      have e : s.data.toList[0]'(by omega) = b := by
        rw [List.head?_eq_getElem?, List.getElem?_eq_getElem (by omega)] at hb
        exact Option.some.inj hb
      rw [e] at this
      intro h48
      simp [h48] at this
      omega
  · rintro ⟨h1, h2, h3, h4⟩
    refine ⟨by omega, by omega, fun i hi => ?_⟩
    have hb := h3 _ (List.getElem_mem (l := s.data.toList) (n := i) (by omega))
    unfold isDig at hb
    unfold badAt
    rw [bt_get s i hi]
    simp only [Bool.or_eq_false_iff, Bool.and_eq_false_iff, decide_eq_false_iff_not]
    refine ⟨⟨by omega, by omega⟩, ?_⟩
    by_cases hi0 : i = 0
    · subst hi0
      by_cases hl : 1 < s.size
      · have := h4 (by omega) (s.data.toList[0]'(by omega)) (by rw [List.head?_eq_getElem?, List.getElem?_eq_getElem (by omega)])
        exact .inl (.inr (by omega))
      · exact .inr hl
    · exact .inl (.inl hi0)
theorem val_all (s : ByteArray) (h : goodL s.data.toList) : digN s s.size = (valL s.data.toList : Int) := by
  rw [digN_val s h.2.2.1 s.size (Nat.le_refl _), show s.data.toList.take s.size = s.data.toList from List.take_of_length_le (Nat.le_refl _)]
theorem dec_good (u : Nat) (hu : u ≤ 9223372036854775808) : goodL (decDigits u) := by
  obtain ⟨h1, h2, h3, h4, _⟩ := dec_facts u
  have hl := dec_len u 18 (by omega)
  exact ⟨List.length_pos_iff.2 h3, by omega, h1, h4⟩
/-- A number's text. -/
def textOf (n : Int) : ByteArray := ⟨(itoa n).toArray⟩
theorem text_list (n : Int) : (textOf n).data.toList = itoa n := rfl
theorem dec_list (u : Nat) (hu : u ≤ 9223372036854775808) : digitsB (⟨(decDigits u).toArray⟩ : ByteArray) = true ∧ digN (⟨(decDigits u).toArray⟩ : ByteArray) (⟨(decDigits u).toArray⟩ : ByteArray).size = (u : Int) := by
  have hg : goodL (⟨(decDigits u).toArray⟩ : ByteArray).data.toList := dec_good u hu
  refine ⟨(digits_good _).2 hg, ?_⟩
  rw [val_all _ hg]
  show ((valL (decDigits u) : Nat) : Int) = _
  rw [(dec_facts u).2.1]
theorem text_len (n : Int) (h0 : -9223372036854775808 ≤ n) (h1 : n ≤ 9223372036854775807) : (textOf n).size ≤ 20 := by
  show (itoa n).length ≤ 20
  unfold itoa
  split
  · have := dec_len n.natAbs 18 (by omega)
    rw [List.length_cons]
    omega
  · have := dec_len n.toNat 18 (by omega)
    omega
theorem ext_cons (b : UInt8) (l : List UInt8) : (⟨(b :: l).toArray⟩ : ByteArray).extract 1 (⟨(b :: l).toArray⟩ : ByteArray).size = ⟨l.toArray⟩ := by
  refine ByteArray.ext ?_
  rw [ByteArray.data_extract]
  apply Array.toList_inj.1
  rw [Array.toList_extract]
  show (b :: l).extract 1 (b :: l).length = l
  simp [List.extract]
theorem parse_text (n : Int) (h0 : -9223372036854775808 ≤ n) (h1 : n ≤ 9223372036854775807) : ints_Parse.f (textOf n) = some (n, 0) := by
  have hlen := text_len n h0 h1
  unfold ints_Parse.f
  rw [if_pos (by omega)]
  by_cases hn : n < 0
  · have e : textOf n = ⟨(45 :: decDigits n.natAbs).toArray⟩ := by unfold textOf itoa; rw [if_pos hn]
    obtain ⟨d1, d2⟩ := dec_list n.natAbs (by omega)
    have hsz : 0 < (textOf n).size := by rw [e]; show 0 < (45 :: decDigits n.natAbs).length; simp
    have hb : bt (textOf n) 0 = 45 := by
      have := bt_get (textOf n) 0 hsz
      rw [show ((0 : Nat) : Int) = 0 from rfl] at this
      rw [this]
      simp only [e]
      rfl
    rw [if_pos ⟨hsz, hb⟩, e, ext_cons]
    unfold parseOf
    rw [if_pos d1, if_pos rfl, d2, if_pos (by omega)]
    congr 2
    omega
  · have e : textOf n = ⟨(decDigits n.toNat).toArray⟩ := by unfold textOf itoa; rw [if_neg hn]
    obtain ⟨d1, d2⟩ := dec_list n.toNat (by omega)
    have hg := dec_good n.toNat (by omega)
    have hsz : 0 < (textOf n).size := by rw [e]; exact hg.1
    have hb : ¬ bt (textOf n) 0 = 45 := by
      have := bt_get (textOf n) 0 hsz
      rw [show ((0 : Nat) : Int) = 0 from rfl] at this
      rw [this]
      have hm : (textOf n).data.toList[0]'hsz ∈ decDigits n.toNat := by
        have : (textOf n).data.toList = decDigits n.toNat := by rw [e]
        rw [← this]
        exact List.getElem_mem _
      have := hg.2.2.1 _ hm
      unfold isDig at this
      omega
    rw [if_neg (fun h => hb h.2), e]
    unfold parseOf
    rw [if_pos d1, if_neg (by simp), d2, if_pos (by omega)]
    congr 2
    omega
theorem good_back (s : ByteArray) (h : goodL s.data.toList) : decDigits (valL s.data.toList) = s.data.toList := by
  have := h.1
  exact dec_back (s.data.toList.length - 1) _ (by omega) h.2.2.1 h.2.2.2
theorem text_parse (s : ByteArray) (k : Int) (h : ints_Parse.f s = some (k, 0)) : textOf k = s := by
  unfold ints_Parse.f at h
  split at h
  case isFalse => cases h
  injection h with h
  split at h
  · rename_i hc
    unfold parseOf at h
    split at h
    · rename_i hd
      rw [if_pos rfl] at h
      split at h
      · rename_i hr
        injection h with h1 h2
        have hg := (digits_good _).1 hd
        rw [val_all _ hg] at h1 hr
        have hb := good_back _ hg
        refine ByteArray.ext (Array.toList_inj.1 ?_)
        rw [text_list]
        unfold itoa
        rw [if_pos (by omega), show k.natAbs = valL (s.extract 1 s.size).data.toList by omega, hb, ByteArray.data_extract, Array.toList_extract]
        have hsz : 0 < s.data.toList.length := hc.1
        have h45 := hc.2
        have hbt : ((s.data.toList[0]'hc.1).toNat : Int) = 45 := (bt_get s 0 hc.1).symm.trans h45
        obtain ⟨a, t, hl⟩ : ∃ a t, s.data.toList = a :: t := by
          cases hl : s.data.toList with
          | nil => rw [hl] at hsz; simp at hsz
          | cons a t => exact ⟨a, t, rfl⟩
        have ha : a = 45 := by
          simp only [hl, List.getElem_cons_zero] at hbt
          exact UInt8.toNat_inj.1 (by show a.toNat = 45; omega)
        rw [hl, ha]
        have hs : s.size = (a :: t).length := by rw [← hl]; rfl
        rw [hs]
        simp [List.extract]
      · injection h with h1 h2
        cases h2
    · injection h with h1 h2
      cases h2
  · unfold parseOf at h
    split at h
    · rename_i hd
      rw [if_neg (by simp)] at h
      split at h
      · rename_i hr
        injection h with h1 h2
        have hg := (digits_good _).1 hd
        rw [val_all _ hg] at h1
        have hb := good_back _ hg
        refine ByteArray.ext (Array.toList_inj.1 ?_)
        rw [text_list]
        unfold itoa
        rw [if_neg (by omega), show k.toNat = valL s.data.toList by omega, hb]
      · injection h with h1 h2
        cases h2
    · injection h with h1 h2
      cases h2
end Go.Proofs.YtjcbbmjmhfimcaaDoor.P
