/- One number in a range; which of two texts stands first: the program's functions and the document's. Conditions: each theorem names its own. -/
import Derived.Test.YtnglofnelmojnaaPureOrd
import Derived.Test.YtnglofnelmojnaaPx7
import Derived.Test.YtnglofnelmojnaaPH6
namespace Go.Proofs.Ytnglofnelmojnaa.Pure
open Go.RowKit Go.Proofs.YtnglofnelmojnaaW.PrintWords Go.Proofs.YtnglofnelmojnaaW.PrintLast Go.Proofs.YtnglofnelmojnaaW.PrintMore Go.Proofs.Ytnglofnelmojnaa.P

theorem wrap_succ (i : Nat) (h : i < 9223372036854775807) : wrap64 ((i : Int) + 1) = ((i + 1 : Nat) : Int) := by unfold wrap64; omega
theorem less_loop (a b : ByteArray) (ha : a.size ≤ 9223372036854775807) (d : Nat) : ∀ (k i : Nat), i ≤ a.size → i ≤ b.size → a.size - i = d → 2 * d + 1 < k →
    palioref07_Less.l0 k a b (i : Int) = some (Op.bytesLess (a.toList.drop i) (b.toList.drop i)) := by
  induction d with
  | zero =>
    intro k i h1 h2 hd hk
    obtain ⟨k, rfl⟩ : ∃ m, k = m + 2 := ⟨k - 2, by omega⟩
    rw [palioref07_Less.l0, if_neg (by omega), palioref07_Less.j1, if_neg (by decide)]
    rw [List.drop_eq_nil_of_le (by rw [size_list]; omega)]
    by_cases hb : i < b.size
    · obtain ⟨c, hc, _⟩ := drop_bt b i hb
      rw [hc, decide_eq_true (by omega)]; rfl
    · rw [List.drop_eq_nil_of_le (by rw [size_list]; omega), decide_eq_false (by omega)]; rfl
  | succ d ih =>
    intro k i h1 h2 hd hk
    obtain ⟨k, rfl⟩ : ∃ m, k = m + 2 := ⟨k - 2, by omega⟩
    obtain ⟨c, hc, hcb⟩ := drop_bt a i (by omega)
    rw [palioref07_Less.l0, if_pos (by omega), palioref07_Less.j1]
    by_cases hb : i < b.size
    · obtain ⟨e, he, heb⟩ := drop_bt b i hb
      rw [if_pos (decide_eq_true (by omega)), if_pos (by omega), if_pos (by omega), if_pos (by omega), hc, he, bl_cons, hcb, heb]
      by_cases hq : (c.toNat : Int) = (e.toNat : Int)
      · have hn : c.toNat = e.toNat := by clear ih hc he hcb heb; omega
        have hi := ih k (i + 1) (by clear ih hc he hcb heb; omega) (by clear ih hc he hcb heb; omega) (by clear ih hc he hcb heb; omega) (by clear ih hc he hcb heb; omega)
        rw [if_pos hq, wrap_succ i (by clear ih hc he hcb heb hi; omega), hi, hn]
        simp
      · rw [if_neg hq]
        have hn : ¬ c.toNat = e.toNat := by omega
        simp [hn]
    · have hnil : b.toList.drop i = [] := List.drop_eq_nil_of_le (by rw [size_list]; omega)
      rw [if_neg (by simp; omega), hc, hnil, decide_eq_false (by omega)]; rfl
theorem less_ref (a b : ByteArray) (ha : a.size ≤ 9223372036854775807) (k : Nat) (hk : 2 * a.size + 1 < k) : palioref07_Less.f k a b = some (Op.bytesLess a.toList b.toList) := by
  have := less_loop a b ha a.size k 0 (by omega) (by omega) (by omega) hk
  simpa [palioref07_Less.f] using this
theorem in_own (n N M I J : Int) (O U : Bool) : bound_In.f n N O I M U J = some (lowB (decide (n < N)) (decide (N < n)) I O && highB (decide (n < M)) (decide (M < n)) J U) := by
  simp only [bound_In.f, bound_of.f, bound_isBehind_int64.f, Option.bind_some, if_true]
  cases lowB (decide (n < N)) (decide (N < n)) I O <;> simp
/-- The order of two texts: less, the same, greater. -/
theorem three (x y : ByteArray) : (Op.bytesLess x.toList y.toList = true ∧ Op.bytesLess y.toList x.toList = false ∧ ¬ x.toList = y.toList) ∨ (x.toList = y.toList ∧ Op.bytesLess x.toList y.toList = false ∧ Op.bytesLess y.toList x.toList = false) ∨
    (Op.bytesLess x.toList y.toList = false ∧ Op.bytesLess y.toList x.toList = true ∧ ¬ x.toList = y.toList) := by
  cases h : Op.bytesLess x.toList y.toList with
  | true => exact .inl ⟨rfl, bl_asymm _ _ h, fun e => by rw [e, bl_irrefl] at h; cases h⟩
  | false =>
    cases h2 : Op.bytesLess y.toList x.toList with
    | true => exact .inr (.inr ⟨rfl, rfl, fun e => by rw [e, bl_irrefl] at h2; cases h2⟩)
    | false => exact .inr (.inl ⟨bl_tri _ _ h h2, rfl, rfl⟩)
theorem cmp_own (x y : ByteArray) : cmp_Compare_string.f x y = some (if Op.bytesLess x.toList y.toList = true then -1 else if Op.bytesLess y.toList x.toList = true then 1 else 0) := by
  unfold cmp_Compare_string.f
  rcases three x y with ⟨h1, h2, h3⟩ | ⟨h1, h2, h3⟩ | ⟨h1, h2, h3⟩
  · simp [h1]
  · simp [h1, bl_irrefl]
  · simp [h1, h2, h3]
theorem shown_true : paliolaw09_shown.f = some true := by decide +kernel
end Go.Proofs.Ytnglofnelmojnaa.Pure
