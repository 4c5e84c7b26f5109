/- The parts of a pattern, as a list of characters tells them; what the printed functions closed, within and one come to. Conditions: each theorem names its own. -/
import Derived.Test.YtmejbponpkkobaaPx1
import Derived.Test.YtmejbponpkkobaaPx2
import Derived.Test.YtmejbponpkkobaaPx3
import Derived.Test.YtmejbponpkkobaaPH3
namespace Go.Proofs.Ytmejbponpkkobaa.P
open Go.RowKit Go.Proofs.YtmejbponpkkobaaW.PrintWords Go.Proofs.YtmejbponpkkobaaW.PrintLast Go.Proofs.YtmejbponpkkobaaW.PrintMore

/-- Where a value first stands in a list; -1: nowhere. -/
def idx : List Int → Int → Int
  | [], _ => -1
  | x :: t, v => if v = x then 0 else if idx t v < 0 then -1 else idx t v + 1
theorem idx_lt : ∀ (l : List Int) (v : Int), idx l v < l.length
  | [], _ => by simp [idx]
  | x :: t, v => by
    have := idx_lt t v
    simp only [idx, List.length_cons]
    split
    · omega
    · split <;> omega
theorem idx_ge : ∀ (l : List Int) (v : Int), -1 ≤ idx l v
  | [], _ => by simp [idx]
  | x :: t, v => by
    have := idx_ge t v
    simp only [idx]
    split
    · omega
    · split <;> omega
theorem wrap64_small (x : Int) (h0 : -9223372036854775808 ≤ x) (h1 : x ≤ 9223372036854775807) : wrap64 x = x := by
  unfold wrap64
  omega
theorem index_l (l : List Int) (v : Int) (hl : l.length ≤ 1000000) : ∀ (m i : Nat), i + m = l.length → slices_Index_rune_rune.l0 (m + 1) l v (l.length : Int) (i : Int) = some (if idx (l.drop i) v < 0 then -1 else i + idx (l.drop i) v)
  | 0, i, h => by
    have hd : l.drop i = [] := List.drop_eq_nil_of_le (by omega)
    rw [slices_Index_rune_rune.l0, if_neg (by omega), hd]
    rfl
  | m + 1, i, h => by
    have ih := index_l l v hl m (i + 1) (by omega)
    rw [slices_Index_rune_rune.l0, if_pos (by omega), if_pos (by omega), if_pos (by omega)]
    have hlt : i < l.length := by omega
    have hd : l.drop i = l[i] :: l.drop (i + 1) := List.drop_eq_getElem_cons hlt
    have hr : rd l (i : Int) = l[i] := by simp [rd, List.getD_eq_getElem?_getD, List.getElem?_eq_getElem hlt]
    rw [hr, hd]
    by_cases e : v = l[i]
    · rw [if_pos e]
      simp [idx, e]
    · have hge := idx_ge (l.drop (i + 1)) v
      rw [if_neg e, wrap64_small _ (by omega) (by omega)]
      rw [show ((i : Int) + 1) = ((i + 1 : Nat) : Int) by omega, ih]
      simp only [idx, if_neg e]
      by_cases h2 : idx (l.drop (i + 1)) v < 0
      · simp [h2]
      · rw [if_neg h2, if_neg h2, if_neg (by omega)]
        congr 1
        omega
theorem index_f (l : List Int) (v : Int) (hl : l.length ≤ 1000000) : slices_Index_rune_rune.f (l.length + 1) l v = some (idx l v) := by
  have h := index_l l v hl l.length 0 (by omega)
  unfold slices_Index_rune_rune.f
  rw [show (0 : Int) = ((0 : Nat) : Int) from rfl, h]
  have := idx_ge l v
  simp only [List.drop_zero]
  congr 1
  split <;> omega
/-- Where a class closes; below 0: nowhere. -/
def clo (l : List Int) : Int :=
  let least := if 0 < l.length ∧ rd l 0 = 94 then 2 else 1
  if l.length < least then -1 else if idx (l.drop least) 93 < 0 then -1 else least + idx (l.drop least) 93
theorem clo_j1 (l : List Int) (hl : l.length ≤ 100000) (n : Nat) (hn : n ≤ 2) : glob_closed.j1 (l.length + 2) l (n : Int) = some (if l.length < n then -1 else if idx (l.drop n) 93 < 0 then -1 else n + idx (l.drop n) 93) := by
  rw [glob_closed.j1]
  by_cases h : l.length < n
  · rw [if_pos (by omega), if_pos h]
  · rw [if_neg (by omega), if_neg h, if_pos (by omega), if_pos (by omega)]
    have hlen : (l.drop n).length ≤ l.length := by rw [List.length_drop]; omega
    have hm : ∀ (j : Nat), slices_Index_rune_rune.f ((l.drop n).length + 1 + j) (l.drop n) 93 = some (idx (l.drop n) 93) := by
      intro j
      induction j with
      | zero => exact index_f _ _ (by omega)
      | succ j ih => exact slices_Index_rune_rune.mono _ _ _ _ ih
    have h2 := hm (l.length - (l.drop n).length)
    rw [show (l.drop n).length + 1 + (l.length - (l.drop n).length) = l.length + 1 by omega] at h2
    rw [Int.toNat_natCast, h2]
    show (if idx (l.drop n) 93 < 0 then some (-1) else some (wrap64 ((n : Int) + idx (l.drop n) 93))) = _
    have := idx_lt (l.drop n) 93
    split
    · rfl
    · rw [wrap64_small _ (by omega) (by omega)]
theorem closed_f (l : List Int) (hl : l.length ≤ 100000) : glob_closed.f (l.length + 3) l = some (clo l) := by
  have h1 := clo_j1 l hl 1 (by omega)
  have h2 := clo_j1 l hl 2 (by omega)
  unfold glob_closed.f clo
  by_cases h0 : 0 < l.length
  · rw [if_pos (by omega), if_pos (by omega), glob_closed.j0]
    by_cases h94 : rd l 0 = 94
    · rw [if_pos (by rw [h94]; rfl)]
      simp only [h0, h94, and_self, if_true]
      exact h2
    · rw [if_neg (by simpa using h94)]
      simp only [h94, and_false, if_false]
      exact h1
  · rw [if_neg (by omega), glob_closed.j0, if_neg (by simp)]
    simp only [h0, false_and, if_false]
    exact h1
/-- A class's spans. -/
def wit : Nat → List Int → List S67
  | 0, _ => []
  | _ + 1, [] => []
  | f + 1, a :: t => if 2 < (a :: t).length ∧ rd (a :: t) 1 = 45 then ⟨mn a (rd (a :: t) 2), mx a (rd (a :: t) 2)⟩ :: wit f (t.drop 2) else ⟨a, a⟩ :: wit f t
theorem within_l : ∀ (f : Nat) (l : List Int) (acc : List S67) (b : Bool), l.length ≤ f → acc.length + f ≤ 1000000 → glob_within.l0 (f + 1) l acc b = some (acc ++ wit f l, b)
  | f, [], acc, b, _, _ => by
    rw [glob_within.l0]
    cases f <;> simp [wit]
  | 0, a :: t, acc, b, h, _ => by simp at h
  | f + 1, a :: t, acc, b, h, h2 => by
    have hl : (a :: t).length = t.length + 1 := List.length_cons
    have hr0 : rd (a :: t) 0 = a := rfl
    have e1 : (if acc.length < 17592186044416 then (if 1 ≤ ((a :: t).length : Int) then (glob_within.l0 (f + 1) ((a :: t).drop 1) (acc ++ [(⟨rd (a :: t) 0, rd (a :: t) 0⟩ : S67)]) b) else none) else none) = some (acc ++ (⟨a, a⟩ : S67) :: wit f t, b) := by
      rw [if_pos (by omega), if_pos (by omega), hr0, List.drop_one, List.tail_cons, within_l f t _ b (by omega) (by rw [List.length_append, List.length_singleton]; omega)]
      simp
    rw [glob_within.l0, if_pos (by omega), if_pos (by omega)]
    by_cases c1 : ((a :: t).length : Int) > 2
    · rw [if_pos c1, if_pos (by omega)]
      by_cases c2 : rd (a :: t) 1 = 45
      · rw [if_pos c2, if_pos (by omega), if_pos (by omega), if_pos (by omega), hr0, within_l f ((a :: t).drop 3) _ b (by rw [List.length_drop]; omega) (by rw [List.length_append, List.length_singleton]; omega)]
        rw [wit, if_pos ⟨by omega, c2⟩]
        simp
      · rw [if_neg c2, e1, wit, if_neg (fun h => c2 h.2)]
    · rw [if_neg c1, e1, wit, if_neg (fun h => c1 (by omega))]
/-- A class's part. -/
def cla (l : List Int) : Pt := if rd l 0 = 94 then .cls (wit (l.length - 1) (l.drop 1)) true else .cls (wit l.length l) false
def Pt.l : Pt → List S67
  | .many => []
  | .cls l _ => l
def Pt.no : Pt → Bool
  | .many => false
  | .cls _ b => b
theorem cla_cls (l : List Int) : cla l = .cls (cla l).l (cla l).no := by
  unfold cla
  split <;> rfl
theorem within_f (l : List Int) (h0 : 0 < l.length) (hl : l.length ≤ 1000000) : glob_within.f (l.length + 2) l = some ((cla l).l, (cla l).no) := by
  unfold glob_within.f cla
  rw [if_pos (by omega)]
  by_cases h : rd l 0 = 94
  · rw [if_pos h, if_pos h, if_pos (by omega), glob_within.j0]
    have := within_l l.length (l.drop 1) [] true (by rw [List.length_drop]; omega) (by simpa using hl)
    rw [this]
    have hw : ∀ (f : Nat) (xs : List Int), xs.length ≤ f → wit (f + 1) xs = wit f xs := by
      intro f
      induction f with
      | zero => intro xs hx; cases xs with | nil => rfl | cons a t => simp at hx
      | succ f ih =>
        intro xs hx
        cases xs with
        | nil => rfl
        | cons a t =>
          simp only [List.length_cons] at hx
          rw [wit, wit, ih (t.drop 2) (by rw [List.length_drop]; omega), ih t (by omega)]
    have h3 := hw (l.length - 1) (l.drop 1) (by rw [List.length_drop]; omega)
    rw [show l.length - 1 + 1 = l.length by omega] at h3
    rw [h3]
    rfl
  · rw [if_neg h, if_neg h, glob_within.j0]
    have := within_l l.length l [] false (Nat.le_refl _) (by simpa using hl)
    rw [this]
    rfl
theorem one_f (r : Int) : glob_one.f 2 [r] = some ([⟨r, r⟩], false) := by
  unfold glob_one.f
  rw [glob_one.l0, if_pos (by simp), if_pos (by omega), if_pos (by simp), if_pos (by simp), wrap64_small _ (by omega) (by omega), glob_one.l0, if_neg (by simp)]
  rfl
theorem anyone_f : glob_anyone.f = some ([], true) := rfl
/-- A pattern's parts; n: how many characters are left out. -/
def prt : List Int → Nat → List Pt
  | [], _ => []
  | _ :: t, n + 1 => prt t n
  | r :: t, 0 =>
    if r = 42 then .many :: prt t 0
    else if r = 63 then .cls [] true :: prt t 0
    else if r = 91 ∧ 0 < clo t then cla (t.take (clo t).toNat) :: prt t ((clo t).toNat + 1)
    else if r = 92 ∧ 0 < t.length then .cls [⟨rd t 0, rd t 0⟩] false :: prt t 1
    else .cls [⟨r, r⟩] false :: prt t 0
theorem clo_lt (l : List Int) (h : 0 < clo l) : clo l < l.length := by
  revert h
  unfold clo
  generalize (if 0 < l.length ∧ rd l 0 = 94 then 2 else 1) = n
  simp only
  intro h
  have h1 := idx_lt (l.drop n) 93
  rw [List.length_drop] at h1
  split at h
  · omega
  · rename_i h2
    rw [if_neg h2]
    split at h
    · omega
    · rename_i h3
      rw [if_neg h3]
      omega
end Go.Proofs.Ytmejbponpkkobaa.P
