/- Ends of ranges: what they are parsed as, and written as, by the program and by the document; both are one to one. Conditions: each theorem names its own. -/
import Derived.Test.YtnglofnelmojnaaDoorPureRef
import Derived.Test.YtnglofnelmojnaaDoorPH8
import Derived.Test.YtnglofnelmojnaaDoorPx3
import Derived.Test.YtnglofnelmojnaaDoorPx7
namespace Go.Proofs.YtnglofnelmojnaaDoor.P
open Go.RowKit Go.Lib Go.Proofs.YtnglofnelmojnaaDoorW.PrintWords Go.Proofs.YtnglofnelmojnaaDoorW.PrintLast Go.Proofs.YtnglofnelmojnaaDoorW.PrintMore

theorem ints_some (c : ByteArray) (h : c.size ≤ 1000) : ∃ k f, ints_Parse.f c = some (k, f) := by
  unfold ints_Parse.f
  rw [if_pos (by omega)]
  exact ⟨_, _, rfl⟩
theorem toL_data (a : ByteArray) : a.toList = a.data.toList := ByteArray.toList_eq _
theorem of_toL {a : ByteArray} {l : List UInt8} (h : a.toList = l) : a = ⟨l.toArray⟩ := by
  subst h
  rw [toL_data]
theorem cons_split (c : ByteArray) (x : UInt8) (h0 : 0 < c.size) (hx : bt c 0 = (x.toNat : Int)) : (⟨#[x]⟩ : ByteArray) ++ c.extract 1 c.size = c := by
  have h1 := bt_get c 0 h0
  rw [show ((0 : Nat) : Int) = 0 from rfl, hx] at h1
  obtain ⟨⟨l⟩⟩ := c
  cases l with
  | nil => exact absurd h0 (by decide)
  | cons y l =>
    have hy : x = y := by
      refine UInt8.toNat_inj.1 ?_
      have h2 : (x.toNat : Int) = (y.toNat : Int) := h1
      omega
    subst hy
    rw [ext_cons x l, show (⟨#[x]⟩ : ByteArray) = ⟨[x].toArray⟩ from rfl, app_list]
    rfl
theorem split_one (c : ByteArray) (h : c.size ≤ 9223372036854775807) : bound_split.f c [40] = some (if 0 < c.size ∧ bt c 0 = 40 then (40, c.extract 1 c.size) else (0, c)) := by
  unfold bound_split.f
  rw [if_pos ⟨h, by decide, by decide⟩]
  by_cases hc : 0 < c.size ∧ bt c 0 = 40
  · rw [if_pos hc, if_pos ⟨hc.1, by rw [hc.2]; decide⟩, hc.2]
  · rw [if_neg hc, if_neg (fun q => hc ⟨q.1, by simpa using q.2⟩)]
theorem split_two (c : ByteArray) (h : c.size ≤ 9223372036854775807) : bound_split.f c [91, 40] = some (if 0 < c.size ∧ (bt c 0 = 91 ∨ bt c 0 = 40) then (bt c 0, c.extract 1 c.size) else (0, c)) := by
  unfold bound_split.f
  rw [if_pos ⟨h, by decide, by decide⟩]
  by_cases hc : 0 < c.size ∧ (bt c 0 = 91 ∨ bt c 0 = 40)
  · rw [if_pos hc, if_pos ⟨hc.1, by simpa using hc.2⟩]
  · rw [if_neg hc, if_neg (fun q => hc ⟨q.1, by simpa using q.2⟩)]
/-- An end of scores is parsed as the document says. -/
theorem parse_end (c : ByteArray) (hc : c.size ≤ 1000) : ∃ n o i e, bound_Parse.f c = some (n, o, i, e) ∧ palioref09_Parse.f 132 c = some (n, o, i, e) ∧ -9223372036854775808 ≤ n ∧ n ≤ 9223372036854775807 := by
  unfold bound_Parse.f palioref09_Parse.f
  by_cases h1 : c.toList = ([45, 105, 110, 102] : List UInt8)
  · rw [if_pos h1, if_pos h1]; exact ⟨_, _, _, _, rfl, rfl, by decide, by decide⟩
  by_cases h2 : c.toList = ([43, 105, 110, 102] : List UInt8)
  · have h3 : ¬ c.toList = ([105, 110, 102] : List UInt8) := by rw [h2]; decide
    rw [if_neg h1, if_neg h1, if_pos h2, if_neg h3, h2]
    exact ⟨_, _, _, _, rfl, rfl, by decide, by decide⟩
  by_cases h3 : c.toList = ([105, 110, 102] : List UInt8)
  · rw [if_neg h1, if_neg h1, if_neg h2, if_pos h3, if_pos h3]; exact ⟨_, _, _, _, rfl, rfl, by decide, by decide⟩
  have hb2 : (c.toList == ([43, 105, 110, 102] : List UInt8)) = false := by simpa using h2
  rw [if_neg h1, if_neg h1, if_neg h2, if_neg h3, if_neg h3, hb2, split_one c (by omega)]
  simp only [Option.bind_some]
  rw [palioref09_Parse.j0, if_neg (show ¬ (false = true) by decide)]
  by_cases h4 : 0 < c.size ∧ bt c 0 = 40
  · obtain ⟨k, f, hk⟩ := ints_some (c.extract 1 c.size) (by rw [ByteArray.size_extract]; omega)
    have hr := parse_same (c.extract 1 c.size) (by rw [ByteArray.size_extract]; omega) (k, f) hk
    have hb := parse_bd _ _ _ hk
    rw [if_pos h4, if_pos (by have := h4.1; omega), if_pos (by have := h4.1; omega), h4.2, palioref09_Parse.j1, if_pos (by decide), if_pos (by have := h4.1; omega), hr, hk]
    simp only [Option.bind_some]
    by_cases hf : f = 0
    · rw [if_pos hf, if_pos hf]; exact ⟨_, _, _, _, rfl, rfl, hb.1, hb.2⟩
    · rw [if_neg hf, if_neg hf]; exact ⟨_, _, _, _, rfl, rfl, by decide, by decide⟩
  · obtain ⟨k, f, hk⟩ := ints_some c hc
    have hr := parse_same c hc (k, f) hk
    have hb := parse_bd _ _ _ hk
    have h5 : palioref09_Parse.j1 131 c false = some (if f = 0 then (k, false, 0, 0) else (0, false, 0, 80)) := by
      rw [palioref09_Parse.j1, if_neg (show ¬ (false = true) by decide), hr]
      simp only [Option.bind_some]
      split <;> rfl
    rw [if_neg h4, hk]
    simp only [Option.bind_some]
    have h6 : (if (c.size : Int) > 0 then (if 0 < (c.size : Int) then palioref09_Parse.j1 131 c (bt c 0 == 40) else none) else palioref09_Parse.j1 131 c false) = palioref09_Parse.j1 131 c false := by
      by_cases hz : (c.size : Int) > 0
      · have : (bt c 0 == 40) = false := by
          rw [beq_eq_false_iff_ne]
          intro q
          exact h4 ⟨by omega, q⟩
        rw [if_pos hz, if_pos hz, this]
      · rw [if_neg hz]
    rw [h6, h5]
    by_cases hf : f = 0
    · rw [if_pos hf, if_pos hf]; exact ⟨_, _, _, _, rfl, rfl, hb.1, hb.2⟩
    · rw [if_neg hf, if_neg hf]; exact ⟨_, _, _, _, rfl, rfl, by decide, by decide⟩
theorem ints_fmt (n : Int) (h0 : -9223372036854775808 ≤ n) (h1 : n ≤ 9223372036854775807) : ints_Format.f n = some (textOf n) := by
  unfold ints_Format.f
  rw [if_pos ⟨h0, h1⟩]
theorem test_neg (n : Int) (o : Bool) (j : Int) (hj : j ≠ 0) : ¬ (n == 0 && (!o && ((0 : Int) == j))) = true := by
  have : ((0 : Int) == j) = false := by rw [beq_eq_false_iff_ne]; exact fun q => hj q.symm
  rw [this]
  cases o <;> simp
/-- What an end is written as, in one word. -/
def textEnd (n : Int) (o : Bool) (i : Int) : ByteArray × Int :=
  if (n == 0 && (!o && (i == (-1)))) = true then (⟨#[45, 105, 110, 102]⟩, 0)
  else if (n == 0 && (!o && (i == 1))) = true then (⟨#[43, 105, 110, 102]⟩, 0)
  else if i = 0 then (if o = true then ((⟨#[40]⟩ : ByteArray) ++ textOf n, 0) else (textOf n, 0)) else (⟨#[]⟩, 80)
theorem fmt_end (n : Int) (o : Bool) (i : Int) (h0 : -9223372036854775808 ≤ n) (h1 : n ≤ 9223372036854775807) (k : Nat) (hk : 21 ≤ k) :
    bound_Format.f n o i = some (textEnd n o i) ∧ palioref09_Format.f k n o i = some (textEnd n o i) := by
  have hl := text_len n h0 h1
  unfold bound_Format.f palioref09_Format.f textEnd
  rw [ints_fmt n h0 h1, fmt_k n h0 h1 k hk]
  simp only [Option.bind_some]
  constructor
  · split
    · rfl
    split
    · rfl
    split
    · split
      · rw [if_pos (by omega)]
      · rfl
    · rfl
  · split
    · rfl
    split
    · rfl
    split
    · split
      · rw [if_pos (by omega)]
      · rfl
    · rfl
theorem size_end (n : Int) (o : Bool) (i : Int) (h0 : -9223372036854775808 ≤ n) (h1 : n ≤ 9223372036854775807) : (textEnd n o i).1.size ≤ 1000 := by
  have hl := text_len n h0 h1
  unfold textEnd
  split
  · decide
  split
  · decide
  split
  · split
    · simp only [ByteArray.size_append]
      have : (⟨#[40]⟩ : ByteArray).size = 1 := rfl
      omega
    · simp only; omega
  · decide
theorem itoa_head (n : Int) : ∃ b l, itoa n = b :: l ∧ (b = 45 ∧ (∀ x, x ∈ l → isDig x) ∨ isDig b) := by
  unfold itoa
  split
  · exact ⟨_, _, rfl, .inl ⟨rfl, (dec_facts _).1⟩⟩
  · obtain ⟨d1, _, d3, _⟩ := dec_facts n.toNat
    cases h : decDigits n.toNat with
    | nil => exact absurd h d3
    | cons b l => exact ⟨b, l, rfl, .inr (d1 b (by rw [h]; exact List.mem_cons_self))⟩
/-- What is written is parsed as it. -/
theorem back_end (n : Int) (o : Bool) (i : Int) (h0 : -9223372036854775808 ≤ n) (h1 : n ≤ 9223372036854775807) (he : (textEnd n o i).2 = 0) : bound_Parse.f (textEnd n o i).1 = some (n, o, i, 0) := by
  have hl := text_len n h0 h1
  revert he
  unfold textEnd
  split
  · rename_i h
    simp only [Bool.and_eq_true, beq_iff_eq, Bool.not_eq_true'] at h
    obtain ⟨rfl, rfl, rfl⟩ := h
    intro _
    decide +kernel
  split
  · rename_i _ h
    simp only [Bool.and_eq_true, beq_iff_eq, Bool.not_eq_true'] at h
    obtain ⟨rfl, rfl, rfl⟩ := h
    intro _
    decide +kernel
  split
  · rename_i hi
    subst hi
    obtain ⟨b, l, hbl, hb⟩ := itoa_head n
    cases o with
    | true =>
      rw [if_pos rfl]
      intro _
      have ha : (⟨#[40]⟩ : ByteArray) ++ textOf n = ⟨(40 :: itoa n).toArray⟩ := by
        rw [show (⟨#[40]⟩ : ByteArray) = ⟨[40].toArray⟩ from rfl]
        exact app_list _ _
      have hL : ((⟨#[40]⟩ : ByteArray) ++ textOf n).toList = 40 :: itoa n := by rw [ha, toL_data]
      have hs : ((⟨#[40]⟩ : ByteArray) ++ textOf n).size = (textOf n).size + 1 := by
        rw [ByteArray.size_append]
        have : (⟨#[40]⟩ : ByteArray).size = 1 := rfl
        omega
      simp only
      unfold bound_Parse.f
      rw [hL, if_neg (by intro q; injection q with q _; exact absurd q (by decide)), if_neg (by intro q; injection q with q _; exact absurd q (by decide)), if_neg (by intro q; injection q with q _; exact absurd q (by decide)), split_one _ (by omega)]
      have hb0 : bt ((⟨#[40]⟩ : ByteArray) ++ textOf n) 0 = 40 := by
        have := bt_get ((⟨#[40]⟩ : ByteArray) ++ textOf n) 0 (by omega)
        rw [show ((0 : Nat) : Int) = 0 from rfl] at this
        rw [this]
        simp only [ha]
        rfl
      rw [if_pos ⟨by omega, hb0⟩]
      have hx : ((⟨#[40]⟩ : ByteArray) ++ textOf n).extract 1 ((⟨#[40]⟩ : ByteArray) ++ textOf n).size = textOf n := by
        rw [ha]
        exact ext_cons 40 (itoa n)
      simp only [Option.bind_some]
      rw [hx, parse_text n h0 h1]
      simp only [Option.bind_some, if_true]
      rfl
    | false =>
      rw [if_neg (show ¬ (false = true) by decide)]
      intro _
      have hL : (textOf n).toList = b :: l := by rw [toL_data, text_list, hbl]
      have hs : (textOf n).size = l.length + 1 := by
        show (textOf n).data.toList.length = _
        rw [text_list, hbl]
        rfl
      simp only
      unfold bound_Parse.f
      rw [hL, if_neg (by
        intro q
        injection q with q1 q2
        rcases hb with ⟨_, hb⟩ | hb
        · have := hb 105 (by rw [q2]; exact List.mem_cons_self)
          unfold isDig at this
          exact absurd this (by decide)
        · rw [q1] at hb
          unfold isDig at hb
          exact absurd hb (by decide)), if_neg (by
        intro q
        injection q with q1 q2
        rcases hb with ⟨hb, _⟩ | hb
        · rw [hb] at q1
          exact absurd q1 (by decide)
        · rw [q1] at hb
          unfold isDig at hb
          exact absurd hb (by decide)), if_neg (by
        intro q
        injection q with q1 q2
        rcases hb with ⟨hb, _⟩ | hb
        · rw [hb] at q1
          exact absurd q1 (by decide)
        · rw [q1] at hb
          unfold isDig at hb
          exact absurd hb (by decide)), split_one _ (by omega)]
      have hb0 : ¬ bt (textOf n) 0 = 40 := by
        have := bt_get (textOf n) 0 (by omega)
        rw [show ((0 : Nat) : Int) = 0 from rfl] at this
        rw [this]
        simp only [text_list, hbl]
        intro q
        have q2 : (b.toNat : Int) = 40 := q
        rcases hb with ⟨hb, _⟩ | hb
        · subst hb
          exact absurd q2 (by decide)
        · unfold isDig at hb
          omega
      rw [if_neg (fun q => hb0 q.2)]
      simp only [Option.bind_some]
      rw [parse_text n h0 h1]
      simp only [Option.bind_some, if_true]
      rfl
  · intro he
    exact absurd he (by decide)
/-- What is parsed is written as it stood, but for inf. -/
theorem forth_end (c : ByteArray) (hc : c.size ≤ 1000) (n : Int) (o : Bool) (i : Int) (h : bound_Parse.f c = some (n, o, i, 0)) : (textEnd n o i).2 = 0 ∧ ((textEnd n o i).1 = c ∨ c.toList = ([105, 110, 102] : List UInt8)) := by
  unfold bound_Parse.f at h
  by_cases h1 : c.toList = ([45, 105, 110, 102] : List UInt8)
  · rw [if_pos h1] at h
    injection h with h
    injection h with q1 h
    injection h with q2 h
    injection h with q3 h
    subst q1; subst q2; subst q3
    exact ⟨rfl, .inl (of_toL h1).symm⟩
  rw [if_neg h1] at h
  by_cases h2 : c.toList = ([43, 105, 110, 102] : List UInt8)
  · rw [if_pos h2] at h
    injection h with h
    injection h with q1 h
    injection h with q2 h
    injection h with q3 h
    subst q1; subst q2; subst q3
    exact ⟨rfl, .inl (of_toL h2).symm⟩
  rw [if_neg h2] at h
  by_cases h3 : c.toList = ([105, 110, 102] : List UInt8)
  · rw [if_pos h3] at h
    injection h with h
    injection h with q1 h
    injection h with q2 h
    injection h with q3 h
    subst q1; subst q2; subst q3
    exact ⟨rfl, .inr h3⟩
  rw [if_neg h3, split_one c (by omega)] at h
  simp only [Option.bind_some] at h
  by_cases h4 : 0 < c.size ∧ bt c 0 = 40
  · rw [if_pos h4] at h
    obtain ⟨k, f, hk⟩ := ints_some (c.extract 1 c.size) (by rw [ByteArray.size_extract]; omega)
    rw [hk] at h
    simp only [Option.bind_some] at h
    by_cases hf : f = 0
    · subst hf
      rw [if_pos rfl] at h
      injection h with h
      injection h with q1 h
      injection h with q2 h
      injection h with q3 h
      subst q1; subst q2; subst q3
      have ht := text_parse _ _ hk
      have e : textEnd k ((40 : Int) != 0) 0 = ((⟨#[40]⟩ : ByteArray) ++ textOf k, 0) := by
        unfold textEnd
        rw [if_neg (test_neg _ _ _ (by decide)), if_neg (test_neg _ _ _ (by decide)), if_pos rfl, if_pos (by decide)]
      rw [e, ht]
      exact ⟨rfl, .inl (cons_split c 40 h4.1 h4.2)⟩
    · rw [if_neg hf] at h
      simp at h
  · rw [if_neg h4] at h
    obtain ⟨k, f, hk⟩ := ints_some c hc
    rw [hk] at h
    simp only [Option.bind_some] at h
    by_cases hf : f = 0
    · subst hf
      rw [if_pos rfl] at h
      injection h with h
      injection h with q1 h
      injection h with q2 h
      injection h with q3 h
      subst q1; subst q2; subst q3
      have ht := text_parse _ _ hk
      have e : textEnd k ((0 : Int) != 0) 0 = (textOf k, 0) := by
        unfold textEnd
        rw [if_neg (test_neg _ _ _ (by decide)), if_neg (test_neg _ _ _ (by decide)), if_pos rfl, if_neg (by decide)]
      rw [e, ht]
      exact ⟨rfl, .inl rfl⟩
    · rw [if_neg hf] at h
      simp at h
/-- What an end of members is written as, in one word. -/
def edgeEnd (s : ByteArray) (o : Bool) (i : Int) : ByteArray × Int :=
  if (s.toList == ([] : List UInt8) && (!o && (i == (-1)))) = true then (⟨#[45]⟩, 0)
  else if (s.toList == ([] : List UInt8) && (!o && (i == 1))) = true then (⟨#[43]⟩, 0)
  else if i = 0 then (if o = true then ((⟨#[40]⟩ : ByteArray) ++ s, 0) else ((⟨#[91]⟩ : ByteArray) ++ s, 0)) else (⟨#[]⟩, 80)
theorem fmt_edge (s : ByteArray) (o : Bool) (i : Int) (h : s.size ≤ 1000000000000000) : bound_FormatEdge.f s o i = some (edgeEnd s o i) := by
  unfold bound_FormatEdge.f edgeEnd
  split
  · rfl
  split
  · rfl
  split
  · split
    · rw [if_pos (by omega)]
    · rw [if_pos (by omega)]
  · rfl
theorem parse_edge_some (c : ByteArray) (hc : c.size ≤ 9223372036854775807) : ∃ s o i e, bound_ParseEdge.f c = some (s, o, i, e) ∧ s.size ≤ c.size := by
  unfold bound_ParseEdge.f
  by_cases h1 : c.toList = ([45] : List UInt8)
  · rw [if_pos h1]; exact ⟨_, _, _, _, rfl, Nat.zero_le _⟩
  rw [if_neg h1]
  by_cases h2 : c.toList = ([43] : List UInt8)
  · rw [if_pos h2]; exact ⟨_, _, _, _, rfl, Nat.zero_le _⟩
  rw [if_neg h2, split_two c hc]
  simp only [Option.bind_some]
  split
  · simp only
    split
    · exact ⟨_, _, _, _, rfl, Nat.zero_le _⟩
    · exact ⟨_, _, _, _, rfl, by rw [ByteArray.size_extract]; omega⟩
  · exact ⟨_, _, _, _, rfl, Nat.zero_le _⟩
theorem nil_of (s : ByteArray) (h : (s.toList == ([] : List UInt8)) = true) : s = ⟨#[]⟩ := of_toL (by simpa using h)
theorem mark_edge (x : UInt8) (s : ByteArray) (hs : s.size ≤ 1000000000000000) (hx : x = 40 ∨ x = 91) : bound_ParseEdge.f ((⟨#[x]⟩ : ByteArray) ++ s) = some (s, decide (x = 40), 0, 0) := by
  have ha : (⟨#[x]⟩ : ByteArray) ++ s = ⟨(x :: s.data.toList).toArray⟩ := by
    rw [show (⟨#[x]⟩ : ByteArray) = ⟨[x].toArray⟩ from rfl]
    exact app_list _ _
  have hL : ((⟨#[x]⟩ : ByteArray) ++ s).toList = x :: s.data.toList := by rw [ha, toL_data]
  have hz : ((⟨#[x]⟩ : ByteArray) ++ s).size = s.size + 1 := by
    rw [ByteArray.size_append]
    have : (⟨#[x]⟩ : ByteArray).size = 1 := rfl
    omega
  have hb0 : bt ((⟨#[x]⟩ : ByteArray) ++ s) 0 = (x.toNat : Int) := by
    have := bt_get ((⟨#[x]⟩ : ByteArray) ++ s) 0 (by omega)
    rw [show ((0 : Nat) : Int) = 0 from rfl] at this
    rw [this]
    simp only [ha]
    rfl
  have hx2 : ((⟨#[x]⟩ : ByteArray) ++ s).extract 1 ((⟨#[x]⟩ : ByteArray) ++ s).size = s := by
    rw [ha]
    exact ext_cons x s.data.toList
  unfold bound_ParseEdge.f
  rw [hL, if_neg (by intro q; injection q with q _; rcases hx with hx | hx <;> (rw [hx] at q; exact absurd q (by decide))), if_neg (by intro q; injection q with q _; rcases hx with hx | hx <;> (rw [hx] at q; exact absurd q (by decide))), split_two _ (by omega), hb0, hx2]
  rcases hx with hx | hx
  · subst hx
    rw [if_pos ⟨by omega, .inr rfl⟩]
    rfl
  · subst hx
    rw [if_pos ⟨by omega, .inl rfl⟩]
    rfl
theorem back_edge (s : ByteArray) (o : Bool) (i : Int) (hs : s.size ≤ 1000000000000000) (he : (edgeEnd s o i).2 = 0) : bound_ParseEdge.f (edgeEnd s o i).1 = some (s, o, i, 0) := by
  revert he
  unfold edgeEnd
  split
  · rename_i h
    rw [Bool.and_eq_true] at h
    have := nil_of s h.1
    subst this
    have h2 := h.2
    simp only [Bool.and_eq_true, beq_iff_eq, Bool.not_eq_true'] at h2
    obtain ⟨rfl, rfl⟩ := h2
    intro _
    decide +kernel
  split
  · rename_i _ h
    rw [Bool.and_eq_true] at h
    have := nil_of s h.1
    subst this
    have h2 := h.2
    simp only [Bool.and_eq_true, beq_iff_eq, Bool.not_eq_true'] at h2
    obtain ⟨rfl, rfl⟩ := h2
    intro _
    decide +kernel
  split
  · rename_i hi
    subst hi
    cases o with
    | true => rw [if_pos rfl]; intro _; exact mark_edge 40 s hs (.inl rfl)
    | false => rw [if_neg (show ¬ (false = true) by decide)]; intro _; exact mark_edge 91 s hs (.inr rfl)
  · intro he
    exact absurd he (by decide)
theorem test_negE (l : List UInt8) (o : Bool) (j : Int) (hj : j ≠ 0) : ¬ (l == ([] : List UInt8) && (!o && ((0 : Int) == j))) = true := by
  have : ((0 : Int) == j) = false := by rw [beq_eq_false_iff_ne]; exact fun q => hj q.symm
  rw [this]
  cases o <;> simp
theorem forth_edge (c : ByteArray) (hc : c.size ≤ 1000000000000000) (s : ByteArray) (o : Bool) (i : Int) (h : bound_ParseEdge.f c = some (s, o, i, 0)) : edgeEnd s o i = (c, 0) := by
  unfold bound_ParseEdge.f at h
  by_cases h1 : c.toList = ([45] : List UInt8)
  · rw [if_pos h1] at h
    injection h with h
    injection h with q1 h
    injection h with q2 h
    injection h with q3 h
    subst q1; subst q2; subst q3
    rw [of_toL h1]
    decide +kernel
  rw [if_neg h1] at h
  by_cases h2 : c.toList = ([43] : List UInt8)
  · rw [if_pos h2] at h
    injection h with h
    injection h with q1 h
    injection h with q2 h
    injection h with q3 h
    subst q1; subst q2; subst q3
    rw [of_toL h2]
    decide +kernel
  rw [if_neg h2, split_two c (by omega)] at h
  simp only [Option.bind_some] at h
  by_cases h4 : 0 < c.size ∧ (bt c 0 = 91 ∨ bt c 0 = 40)
  · rw [if_pos h4] at h
    simp only at h
    rcases h4 with ⟨h0, h4 | h4⟩
    · rw [h4, if_neg (by decide)] at h
      injection h with h
      injection h with q1 h
      injection h with q2 h
      injection h with q3 h
      subst q1; subst q2; subst q3
      unfold edgeEnd
      rw [if_neg (test_negE _ _ _ (by decide)), if_neg (test_negE _ _ _ (by decide)), if_pos rfl, if_neg (by decide), cons_split c 91 h0 h4]
    · rw [h4, if_neg (by decide)] at h
      injection h with h
      injection h with q1 h
      injection h with q2 h
      injection h with q3 h
      subst q1; subst q2; subst q3
      unfold edgeEnd
      rw [if_neg (test_negE _ _ _ (by decide)), if_neg (test_negE _ _ _ (by decide)), if_pos rfl, if_pos (by decide), cons_split c 40 h0 h4]
  · rw [if_neg h4, if_pos rfl] at h
    simp at h
end Go.Proofs.YtnglofnelmojnaaDoor.P
