/- The characters of a text, by its bytes: what stands behind an ASCII byte is read apart. Conditions: each theorem names its own. -/
import Derived.Test.YtmejbponpkkobaaPH6
namespace Go.Proofs.Ytmejbponpkkobaa.P
open Go.RowKit Go.Proofs.YtmejbponpkkobaaW.PrintWords Go.Proofs.YtmejbponpkkobaaW.PrintLast Go.Proofs.YtmejbponpkkobaaW.PrintMore

/-- Is the byte at a place one that goes on with a character? -/
def cnt (l : List UInt8) (k : Nat) : Bool := decide (k < l.length) && ((l.getD k 0).toNat / 64 == 2)
def by' (l : List UInt8) (k : Nat) : Nat := (l.getD k 0).toNat
def c2 (l : List UInt8) : Nat := (by' l 0 % 32) * 64 + by' l 1 % 64
def c3 (l : List UInt8) : Nat := (by' l 0 % 16) * 4096 + (by' l 1 % 64) * 64 + by' l 2 % 64
def c4 (l : List UInt8) : Nat := (by' l 0 % 8) * 262144 + (by' l 1 % 64) * 4096 + (by' l 2 % 64) * 64 + by' l 3 % 64
/-- The first character of bytes, and how many of them it takes. -/
def dec (l : List UInt8) : Nat × Nat :=
  if by' l 0 < 128 then (by' l 0, 1)
  else if (by' l 0 / 32 == 6 && cnt l 1) = true then (if c2 l ≥ 128 then (c2 l, 2) else (Utf8.runeError, 1))
  else if (by' l 0 / 16 == 14 && cnt l 1 && cnt l 2) = true then (if (decide (c3 l ≥ 2048) && Utf8.valid (c3 l : Int)) = true then (c3 l, 3) else (Utf8.runeError, 1))
  else if (by' l 0 / 8 == 30 && cnt l 1 && cnt l 2 && cnt l 3) = true then (if (decide (c4 l ≥ 65536) && Utf8.valid (c4 l : Int)) = true then (c4 l, 4) else (Utf8.runeError, 1))
  else (Utf8.runeError, 1)
theorem get_drop (s : ByteArray) (i k : Nat) : s.get! (i + k) = (s.data.toList.drop i).getD k 0 := by
  rw [List.getD_eq_getElem?_getD, List.getElem?_drop]
  show s.data[i + k]! = _
  rw [Array.getElem!_eq_getD, Array.getD_eq_getD_getElem?, Array.getElem?_toList]
  rfl
theorem decode_dec (s : ByteArray) (i : Nat) (h : i ≤ s.size) : Utf8.decode s i = dec (s.data.toList.drop i) := by
  have hl : (s.data.toList.drop i).length = s.size - i := by rw [List.length_drop]; rfl
  have hb : ∀ k, (s.get! (i + k)).toNat = by' (s.data.toList.drop i) k := fun k => by rw [get_drop]; rfl
  have hc : ∀ k, (decide (i + k < s.size) && by' (s.data.toList.drop i) k / 64 == 2) = cnt (s.data.toList.drop i) k := by
    intro k
    unfold cnt by'
    rw [hl]
    congr 1
    exact decide_eq_decide.2 (by omega)
  unfold Utf8.decode dec
  simp only [hb, hc]
  rfl
theorem dec_append (a b : List UInt8) (ha : a ≠ []) (hb : ∀ x t, b = x :: t → x.toNat < 128) : dec (a ++ b) = dec a := by
  have h0 : ∀ k, k < a.length → (a ++ b).getD k 0 = a.getD k 0 := fun k hk => by
    rw [List.getD_eq_getElem?_getD, List.getD_eq_getElem?_getD, List.getElem?_append_left hk]
  have hlen : 0 < a.length := List.length_pos_iff.2 ha
  have hc : ∀ k, k < a.length → cnt (a ++ b) k = cnt a k := fun k hk => by
    unfold cnt
    rw [h0 k hk, List.length_append, decide_eq_true (by omega : k < a.length + b.length), decide_eq_true hk]
  have hc2 : ∀ k, a.length ≤ k → cnt a k = false := fun k hk => by
    unfold cnt
    rw [decide_eq_false (by omega)]; rfl
  have hc3 : cnt (a ++ b) a.length = false := by
    unfold cnt
    cases b with
    | nil => simp
    | cons x t =>
      have := hb x t rfl
      have e : (a ++ x :: t).getD a.length 0 = x := by
        rw [List.getD_eq_getElem?_getD, List.getElem?_append_right (Nat.le_refl _)]
        simp
      rw [e]
      have : (x.toNat / 64 == 2) = false := by
        rw [beq_eq_false_iff_ne]
        omega
      rw [this, Bool.and_false]
  have b0 : ∀ k, k < a.length → by' (a ++ b) k = by' a k := fun k hk => by unfold by'; rw [h0 k hk]
  unfold dec c2 c3 c4
  rw [b0 0 hlen]
  rcases Nat.lt_or_ge 1 a.length with h1 | h1
  · rw [b0 1 h1, hc 1 h1]
    rcases Nat.lt_or_ge 2 a.length with h2 | h2
    · rw [b0 2 h2, hc 2 h2]
      rcases Nat.lt_or_ge 3 a.length with h3 | h3
      · rw [b0 3 h3, hc 3 h3]
      · have : a.length = 3 := by omega
        rw [this] at hc3
        rw [hc3, hc2 3 h3]
        simp
    · have : a.length = 2 := by omega
      rw [this] at hc3
      rw [hc3, hc2 2 h2]
      simp
  · have : a.length = 1 := by omega
    rw [this] at hc3
    rw [hc3, hc2 1 h1]
    simp
theorem dec_le (a : List UInt8) (ha : a ≠ []) : 1 ≤ (dec a).2 ∧ (dec a).2 ≤ a.length := by
  have hlen : 0 < a.length := List.length_pos_iff.2 ha
  have hc : ∀ k, cnt a k = true → k < a.length := fun k h => by
    unfold cnt at h
    rw [Bool.and_eq_true, decide_eq_true_eq] at h
    exact h.1
  unfold dec
  split
  · exact ⟨Nat.le_refl _, hlen⟩
  · split
    · rename_i h
      rw [Bool.and_eq_true] at h
      have := hc _ h.2
      split <;> simp only <;> omega
    · split
      · rename_i h
        rw [Bool.and_eq_true] at h
        have := hc _ h.2
        split <;> simp only <;> omega
      · split
        · rename_i h
          rw [Bool.and_eq_true] at h
          have := hc _ h.2
          split <;> simp only <;> omega
        · exact ⟨Nat.le_refl _, hlen⟩
/-- The characters of bytes. -/
def rl : Nat → List UInt8 → List Int
  | 0, _ => []
  | _ + 1, [] => []
  | f + 1, x :: t => ((dec (x :: t)).1 : Int) :: rl f ((x :: t).drop (dec (x :: t)).2)
theorem rl_fuel : ∀ (f g : Nat) (l : List UInt8), l.length ≤ f → l.length ≤ g → rl f l = rl g l
  | 0, 0, _, _, _ => rfl
  | 0, g + 1, [], _, _ => rfl
  | 0, _ + 1, _ :: _, h, _ => by simp at h
  | f + 1, 0, [], _, _ => rfl
  | _ + 1, 0, _ :: _, _, h => by simp at h
  | f + 1, g + 1, [], _, _ => rfl
  | f + 1, g + 1, x :: t, h1, h2 => by
    have := dec_le (x :: t) (by simp)
    rw [rl, rl, rl_fuel f g _ (by rw [List.length_drop]; omega) (by rw [List.length_drop]; omega)]
def rL (l : List UInt8) : List Int := rl l.length l
theorem rL_nil : rL [] = [] := rfl
theorem rL_cons (x : UInt8) (t : List UInt8) : rL (x :: t) = ((dec (x :: t)).1 : Int) :: rL ((x :: t).drop (dec (x :: t)).2) := by
  have := dec_le (x :: t) (by simp)
  unfold rL
  rw [List.length_cons, rl, rl_fuel t.length ((x :: t).drop (dec (x :: t)).2).length _ (by rw [List.length_drop]; simp at *; omega) (Nat.le_refl _)]
theorem rs_rl (s : ByteArray) : ∀ f pos, pos ≤ s.size → rs s f pos = rl f (s.data.toList.drop pos)
  | 0, _, _ => rfl
  | f + 1, pos, h => by
    have hsz : s.data.toList.length = s.size := rfl
    rw [rs]
    by_cases hp : pos < s.size
    · rw [if_pos hp]
      have hd : s.data.toList.drop pos = s.data.toList[pos]'(by omega) :: s.data.toList.drop (pos + 1) := List.drop_eq_getElem_cons (by omega)
      have h2 := dec_le (s.data.toList.drop pos) (by rw [hd]; simp)
      rw [List.length_drop] at h2
      rw [decode_dec s pos h, rs_rl s f _ (by omega)]
      rw [hd, rl, ← hd, List.drop_drop]
    · rw [if_neg hp, List.drop_eq_nil_of_le (by omega)]
      rfl
theorem runes_rL (s : ByteArray) : runes s = rL s.data.toList := by
  unfold runes rL
  rw [rs_rl s s.size 0 (Nat.zero_le _)]
  rfl
theorem rL_append : ∀ (n : Nat) (a b : List UInt8), a.length ≤ n → (∀ x t, b = x :: t → x.toNat < 128) → rL (a ++ b) = rL a ++ rL b
  | _, [], b, _, _ => by rw [rL_nil]; rfl
  | 0, _ :: _, _, h, _ => by simp at h
  | n + 1, x :: a, b, h, hb => by
    have h1 := dec_le (x :: a) (by simp)
    have h2 := dec_append (x :: a) b (by simp) hb
    have h3 : (x :: a) ++ b = x :: (a ++ b) := rfl
    rw [h3, rL_cons, ← h3, h2, rL_cons, List.drop_append_of_le_length h1.2, rL_append n _ b (by rw [List.length_drop]; simp at h ⊢; omega) hb]
    rfl
theorem rL_ascii : ∀ (l : List UInt8), (∀ x, x ∈ l → x.toNat < 128) → rL l = l.map (fun x => (x.toNat : Int))
  | [], _ => rfl
  | x :: t, h => by
    have hx := h x List.mem_cons_self
    have : dec (x :: t) = (x.toNat, 1) := by
      unfold dec
      rw [if_pos (by exact hx)]
      rfl
    rw [rL_cons, this]
    simp only [List.drop_succ_cons, List.drop_zero, List.map_cons]
    rw [rL_ascii t (fun y hy => h y (List.mem_cons_of_mem _ hy))]
end Go.Proofs.Ytmejbponpkkobaa.P
