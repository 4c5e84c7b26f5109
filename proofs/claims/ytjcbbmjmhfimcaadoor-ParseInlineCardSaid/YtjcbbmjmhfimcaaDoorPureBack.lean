/- What is made is split again, in plain Lean. Conditions: each theorem names its own. -/
import Derived.Test.YtjcbbmjmhfimcaaDoorPK7
namespace Go.Proofs.YtjcbbmjmhfimcaaDoor.P
open Go.RowKit Go.Lib Go.Proofs.YtjcbbmjmhfimcaaDoorW.PrintWords Go.Proofs.YtjcbbmjmhfimcaaDoorW.PrintLast Go.Proofs.YtjcbbmjmhfimcaaDoorW.PrintMore

theorem numOf_text (n : Int) (h0 : -9223372036854775808 ≤ n) (h1 : n ≤ 9223372036854775807) : numOf (textOf n) = (n, 0) := by
  have h := parse_text n h0 h1
  unfold ints_Parse.f at h
  rw [if_pos (by have := text_len n h0 h1; omega)] at h
  exact Option.some.inj h
/-- A first line: a sign, a number, an end. -/
def lineL (c : UInt8) (n : Nat) : List UInt8 := c :: (itoa (n : Int) ++ [13, 10])
theorem itoa_nat (n : Nat) : itoa (n : Int) = decDigits n := by
  unfold itoa
  first | rfl | simp
theorem digs_no13 (n : Nat) : ∀ b, b ∈ itoa (n : Int) → b ≠ 13 := by
  intro b hb e
  rw [itoa_nat] at hb
  have := (dec_facts n).1 b hb
  rw [e] at this
  exact absurd this.1 (by decide)
theorem index_line (c : UInt8) (hc : c ≠ 13) (ds rest : List UInt8) (hd : ∀ b, b ∈ ds → b ≠ 13) : index (c :: (ds ++ 13 :: 10 :: rest)) [13, 10] = ((1 + ds.length : Nat) : Int) := by
  refine index_hit ?_ ?_ ?_
  · intro j hj
    cases h : occAt (c :: (ds ++ 13 :: 10 :: rest)) [13, 10] j with
    | false => rfl
    | true =>
      have h1 := occAt_head (c := 13) (t := [10]) rfl h
      cases j with
      | zero => exact absurd (Option.some.inj h1) hc
      | succ j =>
        rw [List.getElem?_cons_succ, List.getElem?_append_left (by omega)] at h1
        exact absurd rfl (hd 13 (List.mem_of_getElem? h1))
  · simp; omega
  · rw [occAt_iff_take _ _ _ (by simp; omega)]
    rw [show 1 + ds.length = ds.length + 1 by omega, List.drop_succ_cons, List.drop_left]
    rfl
theorem mk_append (a b : List UInt8) : mk a ++ mk b = mk (a ++ b) := by
  rw [← mk_of (mk a ++ mk b)]
  congr 1
theorem head_line (c : UInt8) (hc : c ≠ 13) (n : Nat) (hn : n ≤ 100000) (lo hi : Int) (hlo : lo ≤ n) (hhi : (n : Int) ≤ hi) (rest : List UInt8) : headB (mk (lineL c n ++ rest)) lo hi = ((n : Int), 0, mk rest) := by
  have hL : lineL c n ++ rest = c :: (itoa (n : Int) ++ 13 :: 10 :: rest) := by simp [lineL]
  rw [hL]
  have hi' : indexB (mk (c :: (itoa (n : Int) ++ 13 :: 10 :: rest))) crlf = ((1 + (itoa (n : Int)).length : Nat) : Int) := index_line c hc _ rest (digs_no13 n)
  have he : (mk (c :: (itoa (n : Int) ++ 13 :: 10 :: rest))).extract 1 (1 + (itoa (n : Int)).length) = textOf n := by
    rw [extract_mk, List.drop_succ_cons, List.drop_zero, show 1 + (itoa (n : Int)).length - 1 = (itoa (n : Int)).length by omega, List.take_left]
    rfl
  unfold headB
  rw [if_neg (by rw [hi']; omega), hi', Int.toNat_natCast, he, numOf_text n (by omega) (by omega)]
  rw [if_neg (by simp only [not_or, Int.not_lt]; exact ⟨by simp, hhi, hlo⟩)]
  have hmx : max (n : Int) (-1) = n := by omega
  rw [hmx, extract_mk, mk_size]
  congr 3
  have h1 : 1 + (itoa (n : Int)).length + 2 = (c :: (itoa (n : Int) ++ [13, 10])).length := by simp; omega
  have h2 : (c :: (itoa (n : Int) ++ 13 :: 10 :: rest)) = (c :: (itoa (n : Int) ++ [13, 10])) ++ rest := by simp
  rw [h1, h2, List.drop_left, List.take_of_length_le (by simp; omega)]
/-- An argument's bytes. -/
def argL (x : ByteArray) : List UInt8 := lineL 36 x.size ++ (x.data.toList ++ [13, 10])
theorem bt_mk (c : UInt8) (l : List UInt8) : bt (mk (c :: l)) 0 = c.toNat := by
  unfold bt
  rw [dif_pos (by rw [mk_size]; simp)]
  rfl
theorem bulk_arg (x : ByteArray) (hx : x.size ≤ 512) (rest : List UInt8) : bulkB (mk (argL x ++ rest)) = (x, 0, mk rest) := by
  have hL : argL x ++ rest = lineL 36 x.size ++ (x.data.toList ++ 13 :: 10 :: rest) := by simp [argL]
  have hh : headB (mk (argL x ++ rest)) 0 512 = ((x.size : Int), 0, mk (x.data.toList ++ 13 :: 10 :: rest)) := by
    rw [hL]
    exact head_line 36 (by decide) x.size (by omega) 0 512 (by omega) (by omega) _
  have hb : bt (mk (argL x ++ rest)) 0 = 36 := by rw [hL]; exact bt_mk 36 _
  have hs : (mk (argL x ++ rest)).size ≠ 0 := by rw [hL, mk_size]; simp [lineL]
  unfold bulkB
  rw [if_neg hs, if_neg (by rw [hb]; simp), hh]
  simp only [Int.toNat_natCast]
  have hxs : x.size = x.data.toList.length := size_eq x
  rw [if_neg (by simp), if_neg (by rw [mk_size, hxs]; simp)]
  have e1 : (mk (x.data.toList ++ 13 :: 10 :: rest)).extract x.size (x.size + 2) = crlf := by
    rw [extract_mk, hxs, List.drop_left, show x.data.toList.length + 2 - x.data.toList.length = 2 by omega]
    rfl
  have e2 : (mk (x.data.toList ++ 13 :: 10 :: rest)).extract 0 x.size = x := by
    rw [extract_mk, hxs, List.drop_zero, Nat.sub_zero, List.take_left]
    exact mk_of x
  have e3 : (mk (x.data.toList ++ 13 :: 10 :: rest)).extract (x.size + 2) (mk (x.data.toList ++ 13 :: 10 :: rest)).size = mk rest := by
    rw [extract_mk, mk_size, hxs]
    congr 1
    rw [show x.data.toList ++ 13 :: 10 :: rest = (x.data.toList ++ [13, 10]) ++ rest by simp, show x.data.toList.length + 2 = (x.data.toList ++ [13, 10]).length by simp, List.drop_left, List.take_of_length_le (by simp; omega)]
  rw [if_neg (by rw [e1]; simp), e2, e3]
theorem rest_args : ∀ (l : List ByteArray), (∀ x ∈ l, x.size ≤ 512) → ∀ (rest : List UInt8) (k : Nat), k ≤ l.length → restB (mk (l.flatMap argL ++ rest)) k = mk ((l.drop k).flatMap argL ++ rest) := by
  intro l h rest k
  induction k with
  | zero => intro _; rfl
  | succ k ih =>
    intro hk
    have hk1 : k < l.length := by omega
    show (bulkB (restB (mk (l.flatMap argL ++ rest)) k)).2.2 = _
    rw [ih (by omega), List.drop_eq_getElem_cons hk1, List.flatMap_cons, List.append_assoc, bulk_arg _ (h _ (List.getElem_mem hk1))]
theorem item_args (l : List ByteArray) (h : ∀ x ∈ l, x.size ≤ 512) (rest : List UInt8) (k : Nat) (hk : k < l.length) : itemB (mk (l.flatMap argL ++ rest)) k = (l[k], 0) := by
  unfold itemB
  rw [rest_args l h rest k (by omega), List.drop_eq_getElem_cons hk, List.flatMap_cons, List.append_assoc, bulk_arg _ (h _ (List.getElem_mem hk))]
theorem items_args (l : List ByteArray) (h : ∀ x ∈ l, x.size ≤ 512) (rest : List UInt8) : itemsB (mk (l.flatMap argL ++ rest)) l.length = l.map fun x => (x, 0) := by
  refine List.ext_getElem ?_ ?_
  · rw [itemsB_len, List.length_map]
  · intro k h1 h2
    rw [List.length_map] at h2
    simp only [itemsB, List.getElem_map, List.getElem_range]
    exact item_args l h rest k h2
/-- A request's bytes. -/
def reqL (l : List ByteArray) : List UInt8 := lineL 42 l.length ++ l.flatMap argL
theorem split_req (l : List ByteArray) (h0 : l.length ≤ 64) (h : ∀ x ∈ l, x.size ≤ 512) (rest : List UInt8) : splitB (mk (reqL l ++ rest)) = (l, 0, mk rest) := by
  have hL : reqL l ++ rest = lineL 42 l.length ++ (l.flatMap argL ++ rest) := by simp [reqL]
  have hh : headB (mk (reqL l ++ rest)) (-9223372036854775808) 64 = ((l.length : Int), 0, mk (l.flatMap argL ++ rest)) := by
    rw [hL]
    exact head_line 42 (by decide) l.length (by omega) _ _ (by omega) (by omega) _
  have hb : bt (mk (reqL l ++ rest)) 0 = 42 := by rw [hL]; exact bt_mk 42 _
  have hs : (mk (reqL l ++ rest)).size ≠ 0 := by rw [hL, mk_size]; simp [lineL]
  have hw : wrongAt (l.map fun x => (x, (0 : Int))) = 0 := wrongAt_zero _ (fun x hx => by
    obtain ⟨y, _, rfl⟩ := List.mem_map.1 hx
    rfl)
  have hB : bulksB (mk (reqL l ++ rest)) = (l, 0, mk rest) := by
    unfold bulksB
    rw [hh]
    simp only [Int.toNat_natCast]
    rw [if_neg (by simp), items_args l h rest, if_neg (by rw [hw]; simp), rest_args l h rest l.length (Nat.le_refl _), List.drop_length, List.map_map]
    congr 1
    exact List.map_id l
  unfold splitB
  rw [if_neg hs, if_pos hb, hB]
  rfl
theorem joined_req (l : List ByteArray) : joinedB (((⟨#[42]⟩ : ByteArray) ++ textOf l.length) :: pieces l) = mk (reqL l) := by
  have hp : ∀ t : List ByteArray, (joinTail [13, 10] ((pieces t).map (·.data.toList)) ++ [13, 10] : List UInt8) = [13, 10] ++ t.flatMap argL := by
    intro t
    induction t with
    | nil => rfl
    | cons x t ih =>
      have e : (pieces (x :: t)).map (·.data.toList) = [36 :: itoa (x.size : Int), x.data.toList] ++ (pieces t).map (·.data.toList) := by
        unfold pieces
        rw [List.flatMap_cons, List.map_append]
        congr 1
      rw [e]
      unfold joinTail at ih ⊢
      rw [List.map_append, List.flatten_append, List.append_assoc, ih, List.flatMap_cons]
      simp [argL, lineL]
  unfold joinedB
  rw [show crlf = mk [13, 10] from rfl, show (⟨(Lib.join ((((⟨#[42]⟩ : ByteArray) ++ textOf l.length) :: pieces l).map (·.data.toList)) [13, 10]).toArray⟩ : ByteArray) = mk (Lib.join ((((⟨#[42]⟩ : ByteArray) ++ textOf l.length) :: pieces l).map (·.data.toList)) [13, 10]) from rfl, mk_append]
  congr 1
  rw [List.map_cons, Lib.join_cons, List.append_assoc, hp l, show (⟨#[42]⟩ : ByteArray) ++ textOf l.length = mk ([42] ++ itoa (l.length : Int)) from mk_append [42] _]
  rw [mk_toList]
  simp [reqL, lineL]
theorem makeB_cases (l : List ByteArray) : makeB l = (⟨#[]⟩, 40) ∨ (l.length ≤ 64 ∧ (∀ x ∈ l, x.size ≤ 512) ∧ makeB l = (mk (reqL l), 0)) := by
  unfold makeB
  by_cases h : l.length = 0 ∨ 64 < l.length ∨ ∃ s ∈ l, 512 < s.size
  · exact .inl (by rw [if_pos h])
  · refine .inr ⟨?_, ?_, by rw [if_neg h, joined_req]⟩
    · have : ¬ 64 < l.length := fun e => h (.inr (.inl e))
      omega
    · intro x hx
      have : ¬ 512 < x.size := fun e => h (.inr (.inr ⟨x, hx, e⟩))
      omega
end Go.Proofs.YtjcbbmjmhfimcaaDoor.P
