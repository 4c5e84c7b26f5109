/- Characters written anew as bytes: read again they are the same. Conditions: that the characters can be written. -/
import Derived.Test.YtmejbponpkkobaaPureRunes
import Derived.Laws.Cover4
namespace Go.Proofs.Ytmejbponpkkobaa.P
open Go.RowKit Go.Proofs.YtmejbponpkkobaaW.PrintWords Go.Proofs.YtmejbponpkkobaaW.PrintLast Go.Proofs.YtmejbponpkkobaaW.PrintMore

theorem valid_small (r : Nat) (h : Utf8.valid (r : Int) = true) : r ≤ 1114111 := by
  unfold Utf8.valid at h
  simp at h
  omega
theorem dec_encode (r : Nat) (hv : Utf8.valid (r : Int) = true) (rest : List UInt8) : dec ((Utf8.encode (r : Int)).data.toList ++ rest) = (r, (Utf8.encode (r : Int)).data.toList.length) := by
  have hs := valid_small r hv
  unfold Utf8.encode
  simp only [hv, if_true, Int.toNat_natCast]
  by_cases h1 : r < 128
  · rw [if_pos h1]
    have b0 : by' ([UInt8.ofNat r] ++ rest) 0 = r := by show (UInt8.ofNat r).toNat = r; simp; omega
    show dec ([UInt8.ofNat r] ++ rest) = (r, 1)
    unfold dec
    rw [b0, if_pos h1]
  · rw [if_neg h1]
    by_cases h2 : r < 2048
    · rw [if_pos h2]
      show dec ([UInt8.ofNat (192 + r / 64), UInt8.ofNat (128 + r % 64)] ++ rest) = (r, 2)
      generalize hl : [UInt8.ofNat (192 + r / 64), UInt8.ofNat (128 + r % 64)] ++ rest = l
      have b0 : by' l 0 = 192 + r / 64 := by rw [← hl]; show (UInt8.ofNat (192 + r / 64)).toNat = _; simp; omega
      have b1 : by' l 1 = 128 + r % 64 := by rw [← hl]; show (UInt8.ofNat (128 + r % 64)).toNat = _; simp; omega
      have hlen : 2 ≤ l.length := by rw [← hl]; simp
      have k1 : cnt l 1 = true := by
        unfold cnt
        rw [show (l.getD 1 0).toNat = by' l 1 from rfl, b1, decide_eq_true (by omega : 1 < l.length)]
        simp
        omega
      have e2 : c2 l = r := by unfold c2; rw [b0, b1]; omega
      unfold dec
      rw [b0, if_neg (by omega), k1, e2, if_pos (by simp; omega), if_pos (by omega)]
    · rw [if_neg h2]
      by_cases h3 : r < 65536
      · rw [if_pos h3]
        show dec ([UInt8.ofNat (224 + r / 4096), UInt8.ofNat (128 + r / 64 % 64), UInt8.ofNat (128 + r % 64)] ++ rest) = (r, 3)
        generalize hl : [UInt8.ofNat (224 + r / 4096), UInt8.ofNat (128 + r / 64 % 64), UInt8.ofNat (128 + r % 64)] ++ rest = l
        have b0 : by' l 0 = 224 + r / 4096 := by rw [← hl]; show (UInt8.ofNat (224 + r / 4096)).toNat = _; simp; omega
        have b1 : by' l 1 = 128 + r / 64 % 64 := by rw [← hl]; show (UInt8.ofNat (128 + r / 64 % 64)).toNat = _; simp; omega
        have b2 : by' l 2 = 128 + r % 64 := by rw [← hl]; show (UInt8.ofNat (128 + r % 64)).toNat = _; simp; omega
        have hlen : 3 ≤ l.length := by rw [← hl]; simp
        have k1 : cnt l 1 = true := by
          unfold cnt
          rw [show (l.getD 1 0).toNat = by' l 1 from rfl, b1, decide_eq_true (by omega : 1 < l.length)]
          simp
          omega
        have k2 : cnt l 2 = true := by
          unfold cnt
          rw [show (l.getD 2 0).toNat = by' l 2 from rfl, b2, decide_eq_true (by omega : 2 < l.length)]
          simp
          omega
        have e3 : c3 l = r := by unfold c3; rw [b0, b1, b2]; omega
        unfold dec
        rw [b0, if_neg (by omega), k1, k2, e3, if_neg (by simp; omega), if_pos (by simp; omega), if_pos (by rw [hv, decide_eq_true (by omega)]; rfl)]
      · rw [if_neg h3]
        show dec ([UInt8.ofNat (240 + r / 262144), UInt8.ofNat (128 + r / 4096 % 64), UInt8.ofNat (128 + r / 64 % 64), UInt8.ofNat (128 + r % 64)] ++ rest) = (r, 4)
        generalize hl : [UInt8.ofNat (240 + r / 262144), UInt8.ofNat (128 + r / 4096 % 64), UInt8.ofNat (128 + r / 64 % 64), UInt8.ofNat (128 + r % 64)] ++ rest = l
        have b0 : by' l 0 = 240 + r / 262144 := by rw [← hl]; show (UInt8.ofNat (240 + r / 262144)).toNat = _; simp; omega
        have b1 : by' l 1 = 128 + r / 4096 % 64 := by rw [← hl]; show (UInt8.ofNat (128 + r / 4096 % 64)).toNat = _; simp; omega
        have b2 : by' l 2 = 128 + r / 64 % 64 := by rw [← hl]; show (UInt8.ofNat (128 + r / 64 % 64)).toNat = _; simp; omega
        have b3 : by' l 3 = 128 + r % 64 := by rw [← hl]; show (UInt8.ofNat (128 + r % 64)).toNat = _; simp; omega
        have hlen : 4 ≤ l.length := by rw [← hl]; simp
        have k1 : cnt l 1 = true := by
          unfold cnt
          rw [show (l.getD 1 0).toNat = by' l 1 from rfl, b1, decide_eq_true (by omega : 1 < l.length)]
          simp
          omega
        have k2 : cnt l 2 = true := by
          unfold cnt
          rw [show (l.getD 2 0).toNat = by' l 2 from rfl, b2, decide_eq_true (by omega : 2 < l.length)]
          simp
          omega
        have k3 : cnt l 3 = true := by
          unfold cnt
          rw [show (l.getD 3 0).toNat = by' l 3 from rfl, b3, decide_eq_true (by omega : 3 < l.length)]
          simp
          omega
        have e4 : c4 l = r := by unfold c4; rw [b0, b1, b2, b3]; omega
        unfold dec
        rw [b0, if_neg (by omega), k1, k2, k3, e4, if_neg (by simp; omega), if_neg (by simp; omega), if_pos (by simp; omega), if_pos (by rw [hv, decide_eq_true (by omega)]; rfl)]
/-- The characters of bytes can be written. -/
theorem dec_valid (l : List UInt8) : Utf8.valid ((dec l).1 : Int) = true := by
  have hb : ∀ k, by' l k < 256 := fun k => (l.getD k 0).toNat_lt
  have b0 := hb 0
  have b1 := hb 1
  have err : Utf8.valid ((Utf8.runeError : Nat) : Int) = true := by decide
  have small : ∀ n : Nat, n < 2048 → Utf8.valid (n : Int) = true := fun n h => by
    unfold Utf8.valid
    simp
    omega
  unfold dec
  split
  · exact small _ (by simp only; omega)
  · split
    · split
      · exact small _ (by simp only [c2]; omega)
      · exact err
    · split
      · split
        · rename_i h2
          rw [Bool.and_eq_true] at h2
          exact h2.2
        · exact err
      · split
        · split
          · rename_i h2
            rw [Bool.and_eq_true] at h2
            exact h2.2
          · exact err
        · exact err
theorem rL_valid : ∀ (n : Nat) (l : List UInt8), l.length ≤ n → ∀ r, r ∈ rL l → ∃ m : Nat, r = (m : Int) ∧ Utf8.valid (m : Int) = true
  | _, [], _, r, h => by rw [rL_nil] at h; cases h
  | 0, _ :: _, hn, _, _ => by simp at hn
  | n + 1, x :: t, hn, r, h => by
    have h1 := dec_le (x :: t) (by simp)
    rw [rL_cons] at h
    rcases List.mem_cons.1 h with h | h
    · exact ⟨_, h, dec_valid _⟩
    · exact rL_valid n _ (by rw [List.length_drop]; simp at hn ⊢; omega) r h
theorem enc_pos (r : Int) : 1 ≤ (Utf8.encode r).data.toList.length := by
  unfold Utf8.encode
  simp only
  generalize (if Utf8.valid r = true then r.toNat else Utf8.runeError) = c
  split
  · exact Nat.le_refl 1
  · split
    · exact Nat.le_succ 1
    · split
      · exact Nat.succ_le_succ (Nat.zero_le 2)
      · exact Nat.succ_le_succ (Nat.zero_le 3)
theorem runes_bytes (l : List Int) : (runesBytes l).data.toList = l.flatMap (fun r => (Utf8.encode r).data.toList) := by
  have key : ∀ (l : List Int) (s : ByteArray), (l.foldl (fun r n => r ++ Utf8.encode n) s).data.toList = s.data.toList ++ l.flatMap (fun r => (Utf8.encode r).data.toList) := by
    intro l
    induction l with
    | nil => intro s; simp
    | cons r l ih =>
      intro s
      rw [List.foldl_cons, ih, ByteArray.data_append, List.flatMap_cons]
      simp
  have := key l ByteArray.empty
  unfold runesBytes
  rw [this]
  rfl
/-- Characters, written. -/
def wr (l : List Int) : List UInt8 := l.flatMap (fun r => (Utf8.encode r).data.toList)
theorem rL_wr : ∀ l : List Int, (∀ r, r ∈ l → ∃ m : Nat, r = (m : Int) ∧ Utf8.valid (m : Int) = true) → rL (wr l) = l
  | [], _ => rfl
  | r :: l, h => by
    obtain ⟨m, rfl, hv⟩ := h r List.mem_cons_self
    have hd := dec_encode m hv (wr l)
    have ih := rL_wr l (fun x hx => h x (List.mem_cons_of_mem _ hx))
    have hw : wr ((m : Int) :: l) = (Utf8.encode (m : Int)).data.toList ++ wr l := by unfold wr; rw [List.flatMap_cons]
    rw [hw]
    have hpos : 1 ≤ (Utf8.encode (m : Int)).data.toList.length := enc_pos _
    obtain ⟨y, ys, hy⟩ : ∃ y ys, (Utf8.encode (m : Int)).data.toList ++ wr l = y :: ys := by
      cases hc : (Utf8.encode (m : Int)).data.toList with
      | nil => rw [hc] at hpos; simp at hpos
      | cons y ys => exact ⟨y, ys ++ wr l, rfl⟩
    rw [hy, rL_cons, ← hy, hd]
    simp only [List.drop_left]
    rw [ih]
theorem wr_inj (p s : List UInt8) : wr (rL p) = wr (rL s) ↔ rL p = rL s := by
  constructor
  · intro h
    have h1 := rL_wr (rL p) (rL_valid _ p (Nat.le_refl _))
    have h2 := rL_wr (rL s) (rL_valid _ s (Nat.le_refl _))
    rw [← h1, h, h2]
  · intro h
    rw [h]
end Go.Proofs.Ytmejbponpkkobaa.P
