/- The words of a line of plain letters, in plain Lean. Conditions: each theorem names its own. -/
import Derived.Test.YtjcbbmjmhfimcaaDoorPK8
import Derived.Test.YtjcbbmjmhfimcaaDoorPureBack
namespace Go.Proofs.YtjcbbmjmhfimcaaDoor.P
open Go.RowKit Go.Lib Go.Proofs.YtjcbbmjmhfimcaaDoorW.PrintWords Go.Proofs.YtjcbbmjmhfimcaaDoorW.PrintLast Go.Proofs.YtjcbbmjmhfimcaaDoorW.PrintMore

/-- The words of bytes: 'cur' is the one at hand. -/
def wl : List UInt8 → List UInt8 → List (List UInt8)
  | cur, [] => if cur = [] then [] else [cur]
  | cur, b :: t => if b = 32 ∨ b = 9 then (if cur = [] then wl [] t else cur :: wl [] t) else wl (cur ++ [b]) t
theorem sub_nil {l : List UInt8} {a b : Nat} (hab : a ≤ b) (hb : b ≤ l.length) : ((l.drop a).take (b - a) = []) ↔ a = b := by
  constructor
  · intro h
    have := congrArg List.length h
    rw [List.length_take, List.length_drop, List.length_nil] at this
    omega
  · rintro rfl
    simp
theorem wds_wl (s : ByteArray) (ha : ∀ b ∈ s.data.toList, b.toNat < 128) : ∀ (f pos from_ : Nat) (out : List ByteArray), pos ≤ s.size → from_ ≤ pos → s.size ≤ pos + f →
    wds s f pos from_ out = out ++ (wl ((s.data.toList.drop from_).take (pos - from_)) (s.data.toList.drop pos)).map mk := by
  have hsl := size_eq s
  have fin : ∀ (from_ : Nat) (out : List ByteArray), from_ ≤ s.size → (if from_ < s.size then out ++ [s.extract from_ s.size] else out) = out ++ (wl ((s.data.toList.drop from_).take (s.size - from_)) []).map mk := by
    intro from_ out hf
    show _ = out ++ ((if (s.data.toList.drop from_).take (s.size - from_) = [] then [] else [(s.data.toList.drop from_).take (s.size - from_)]) : List (List UInt8)).map mk
    by_cases h : from_ < s.size
    · rw [if_pos h, if_neg (by rw [sub_nil (by omega) (by omega)]; omega), extract_eq]
      rfl
    · rw [if_neg h, if_pos (by rw [sub_nil (by omega) (by omega)]; omega)]
      simp
  intro f
  induction f with
  | zero =>
    intro pos from_ out hp hf hs
    have : pos = s.size := by omega
    subst this
    rw [List.drop_of_length_le (i := s.size) (by omega)]
    exact fin from_ out hf
  | succ f ih =>
    intro pos from_ out hp hf hs
    by_cases hlt : pos < s.size
    · have hl : pos < s.data.toList.length := by omega
      have hb : (s.data.toList[pos]).toNat < 128 := ha _ (List.getElem_mem hl)
      have hdec := decode_ascii s pos hlt hb
      rw [wds, if_pos hlt, hdec]
      have hd : s.data.toList.drop pos = s.data.toList[pos] :: s.data.toList.drop (pos + 1) := List.drop_eq_getElem_cons hl
      have hbe : s[pos] = s.data.toList[pos] := rfl
      rw [hd, wl, hbe]
      generalize hB : s.data.toList[pos] = b at hb
      have h32 : (b = 32 ∨ b = 9) ↔ (b.toNat = 32 ∨ b.toNat = 9) := by
        constructor
        · rintro (rfl | rfl) <;> simp
        · rintro (h | h)
          · exact .inl (UInt8.toNat_inj.1 h)
          · exact .inr (UInt8.toNat_inj.1 h)
      by_cases hk : b = 32 ∨ b = 9
      · have hk' := h32.1 hk
        simp only
        rw [if_pos hk', if_pos hk, ih (pos + 1) (pos + 1) _ (by omega) (by omega) (by omega), Nat.sub_self, List.take_zero]
        by_cases hfp : from_ < pos
        · rw [if_pos hfp, if_neg (by rw [sub_nil (by omega) (by omega)]; omega), extract_eq]
          simp [mk]
        · rw [if_neg hfp, if_pos (by rw [sub_nil (by omega) (by omega)]; omega)]
      · have hk' : ¬ (b.toNat = 32 ∨ b.toNat = 9) := fun h => hk (h32.2 h)
        simp only
        rw [if_neg hk', if_neg hk, ih (pos + 1) from_ out (by omega) (by omega) (by omega)]
        congr 3
        rw [show pos + 1 - from_ = (pos - from_) + 1 by omega, List.take_add_one, List.getElem?_drop, show from_ + (pos - from_) = pos by omega, List.getElem?_eq_getElem hl, hB]
        rfl
    · have : pos = s.size := by omega
      subst this
      rw [wds, if_neg hlt, List.drop_of_length_le (i := s.size) (by omega)]
      exact fin from_ out hf
theorem wordsB_wl (l : List UInt8) (ha : ∀ b ∈ l, b.toNat < 128) : wordsB (mk l) = (wl [] l).map mk := by
  unfold wordsB
  rw [wds_wl (mk l) ha (mk l).size 0 0 [] (by omega) (by omega) (by omega)]
  simp [mk_toList]
def noBlank (w : List UInt8) : Prop := ∀ b ∈ w, ¬ (b = 32 ∨ b = 9)
theorem wl_word : ∀ (w cur t : List UInt8), noBlank w → wl cur (w ++ t) = wl (cur ++ w) t
  | [], cur, t, _ => by simp
  | b :: w, cur, t, h => by
    rw [List.cons_append, wl, if_neg (h b List.mem_cons_self), wl_word w _ t (fun x hx => h x (List.mem_cons_of_mem _ hx))]
    simp
/-- Those of some words that are not empty. -/
def some_ (ws : List (List UInt8)) : List (List UInt8) := ws.filter fun w => w ≠ []
theorem some_cons (w : List UInt8) (ws : List (List UInt8)) : some_ (w :: ws) = (if w = [] then some_ ws else w :: some_ ws) := by
  unfold some_
  by_cases h : w = []
  · simp [h]
  · simp [h]
theorem wl_behind : ∀ (ws : List (List UInt8)), (∀ w ∈ ws, noBlank w) → wl [] (ws.flatMap fun w => w ++ [32]) = some_ ws
  | [], _ => rfl
  | w :: ws, h => by
    rw [List.flatMap_cons, List.append_assoc, wl_word w [] _ (h w List.mem_cons_self), List.nil_append, List.singleton_append, wl, if_pos (.inl rfl), wl_behind ws (fun x hx => h x (List.mem_cons_of_mem _ hx)), some_cons]
theorem wl_ahead : ∀ (ws : List (List UInt8)) (cur : List UInt8), (∀ w ∈ ws, noBlank w) → wl cur (ws.flatMap fun w => 9 :: 32 :: w) = some_ (cur :: ws)
  | [], cur, _ => by
    rw [some_cons]
    rfl
  | w :: ws, cur, h => by
    rw [List.flatMap_cons, List.cons_append, List.cons_append, wl, if_pos (.inr rfl)]
    have h1 : wl [] (32 :: (w ++ ws.flatMap fun w => 9 :: 32 :: w)) = some_ (w :: ws) := by
      rw [wl, if_pos (.inl rfl), if_pos rfl, wl_word w [] _ (h w List.mem_cons_self), List.nil_append, wl_ahead ws w (fun x hx => h x (List.mem_cons_of_mem _ hx))]
    rw [h1, some_cons cur]
/-- A plain letter. -/
def okc (b : UInt8) : Bool := (48 ≤ b.toNat && b.toNat ≤ 57) || (97 ≤ b.toNat && b.toNat ≤ 122)
theorem okc_facts {b : UInt8} (h : okc b = true) : b.toNat < 128 ∧ b.toNat ≠ 32 ∧ b.toNat ≠ 9 ∧ b.toNat ≠ 10 ∧ b.toNat ≠ 13 ∧ b.toNat ≠ 42 := by
  unfold okc at h
  simp only [Bool.or_eq_true, Bool.and_eq_true, decide_eq_true_eq] at h
  omega
/-- A line's bytes, of its words. -/
def lineOf (tabs : Bool) (ws : List (List UInt8)) : List UInt8 := ws.flatMap fun w => if tabs = true then 9 :: 32 :: w else w ++ [32]
theorem line_wl (tabs : Bool) (ws : List (List UInt8)) (h : ∀ w ∈ ws, ∀ b ∈ w, okc b = true) : wl [] (lineOf tabs ws) = some_ ws := by
  have hn : ∀ w ∈ ws, noBlank w := fun w hw b hb hk => by
    have := okc_facts (h w hw b hb)
    rcases hk with rfl | rfl
    · exact this.2.1 rfl
    · exact this.2.2.1 rfl
  cases tabs with
  | true =>
    have : lineOf true ws = ws.flatMap fun w => 9 :: 32 :: w := by unfold lineOf; simp
    rw [this, wl_ahead ws [] hn, some_cons, if_pos rfl]
  | false =>
    have : lineOf false ws = ws.flatMap fun w => w ++ [32] := by unfold lineOf; simp
    rw [this, wl_behind ws hn]
theorem line_bytes (tabs : Bool) (ws : List (List UInt8)) (h : ∀ w ∈ ws, ∀ b ∈ w, okc b = true) : ∀ b ∈ lineOf tabs ws, b.toNat < 128 ∧ b.toNat ≠ 10 ∧ b.toNat ≠ 13 ∧ b.toNat ≠ 42 := by
  intro b hb
  unfold lineOf at hb
  obtain ⟨w, hw, hb⟩ := List.mem_flatMap.1 hb
  have h1 : b ∈ w → b.toNat < 128 ∧ b.toNat ≠ 10 ∧ b.toNat ≠ 13 ∧ b.toNat ≠ 42 := fun hb => by
    have := okc_facts (h w hw b hb)
    omega
  cases tabs with
  | true =>
    simp at hb
    rcases hb with rfl | rfl | hb
    · decide
    · decide
    · exact h1 hb
  | false =>
    simp at hb
    rcases hb with hb | rfl
    · exact h1 hb
    · decide
theorem line_len2 (tabs : Bool) (ws : List (List UInt8)) (h : ∀ w ∈ ws, w.length ≤ 10) : (lineOf tabs ws).length ≤ 12 * ws.length := by
  induction ws with
  | nil => simp [lineOf]
  | cons w ws ih =>
    have h1 := ih (fun x hx => h x (List.mem_cons_of_mem _ hx))
    have h2 := h w List.mem_cons_self
    unfold lineOf at h1 ⊢
    rw [List.flatMap_cons, List.length_append, List.length_cons]
    cases tabs <;> simp at h1 ⊢ <;> omega
def restL : List UInt8 := [114, 101, 115, 116]
theorem index_lf (l rest : List UInt8) (h : ∀ b ∈ l, b.toNat ≠ 10) : index (l ++ 10 :: rest) [10] = (l.length : Int) := by
  refine index_hit ?_ (by simp) ?_
  · intro j hj
    cases ho : occAt (l ++ 10 :: rest) [10] j with
    | false => rfl
    | true =>
      have h1 := occAt_head (c := 10) (t := []) rfl ho
      rw [List.getElem?_append_left hj] at h1
      exact absurd rfl (h 10 (List.mem_of_getElem? h1))
  · rw [occAt_iff_take _ _ _ (by simp), List.drop_left]
    rfl
/-- What Split tells of a line of plain words. -/
theorem split_line (tabs cr : Bool) (ws : List (List UInt8)) (h : ∀ w ∈ ws, ∀ b ∈ w, okc b = true) (hl : ∀ w ∈ ws, w.length ≤ 10) (h60 : ws.length ≤ 60) :
    splitB (mk (lineOf tabs ws ++ (if cr = true then [13] else []) ++ 10 :: restL)) = ((some_ ws).map mk, 0, mk restL) := by
  have hb := line_bytes tabs ws h
  have hll := line_len2 tabs ws hl
  have hw := line_wl tabs ws h
  have hws : wordsB (mk (lineOf tabs ws)) = (some_ ws).map mk := by rw [wordsB_wl _ (fun b hb' => (hb b hb').1), hw]
  have hsl : (some_ ws).length ≤ ws.length := List.length_filter_le _ _
  generalize lineOf tabs ws = L at hb hll hw hws
  obtain ⟨M, hM⟩ : ∃ M, M = L ++ (if cr = true then [13] else []) := ⟨_, rfl⟩
  have hMb : ∀ b ∈ M, b.toNat ≠ 10 ∧ b.toNat ≠ 42 := by
    intro b hbM
    rw [hM] at hbM
    rcases List.mem_append.1 hbM with hbM | hbM
    · have := hb b hbM; omega
    · cases cr
      · simp at hbM
      · simp at hbM
        subst hbM
        decide
  have hMl : M.length ≤ 721 := by
    rw [hM, List.length_append]
    cases cr <;> simp <;> omega
  have htr : trimB (mk M) = mk L := by
    unfold trimB Lib.trimSuffix Lib.hasSuffix
    rw [mk_toList, hM]
    cases cr with
    | true =>
      rw [if_pos rfl, if_pos (by simp [List.isSuffixOf_iff_suffix])]
      simp [mk]
    | false =>
      have hno : ¬ ([13] : List UInt8).isSuffixOf L = true := by
        intro hsuf
        have hsuf := List.isSuffixOf_iff_suffix.1 hsuf
        have := hb 13 (hsuf.subset (List.mem_singleton.2 rfl))
        exact this.2.2.1 rfl
      have e0 : (L ++ (if false = true then [13] else [] : List UInt8)) = L := by simp
      rw [e0, if_neg hno]
      rfl
  rw [← hM]
  have hi : indexB (mk (M ++ 10 :: restL)) lf = ((M.length : Nat) : Int) := index_lf M restL (fun b hbM => (hMb b hbM).1)
  have e1 : (mk (M ++ 10 :: restL)).extract 0 M.length = mk M := by
    rw [extract_mk, List.drop_zero, Nat.sub_zero, List.take_left]
  have e2 : (mk (M ++ 10 :: restL)).extract (M.length + 1) (mk (M ++ 10 :: restL)).size = mk restL := by
    rw [extract_mk, mk_size, show M ++ 10 :: restL = (M ++ [10]) ++ restL by simp, show M.length + 1 = (M ++ [10]).length by simp, List.drop_left, List.take_of_length_le (by simp; omega)]
  have hin : inlineB (mk (M ++ 10 :: restL)) = ((some_ ws).map mk, 0, mk restL) := by
    unfold inlineB
    rw [if_neg (by rw [hi]; omega), hi, Int.toNat_natCast, e1, e2, htr, hws, if_neg (by rw [List.length_map]; omega)]
  have h42 : ¬ bt (mk (M ++ 10 :: restL)) 0 = 42 := by
    cases M with
    | nil =>
      rw [List.nil_append, bt_mk]
      decide
    | cons b t =>
      rw [List.cons_append, bt_mk]
      have := (hMb b List.mem_cons_self).2
      omega
  have h0 : ¬ (mk (M ++ 10 :: restL)).size = 0 := by rw [mk_size]; simp
  unfold splitB
  rw [if_neg h0, if_neg h42, hin]
  rfl
end Go.Proofs.YtjcbbmjmhfimcaaDoor.P
