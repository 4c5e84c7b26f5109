/- The order of texts, of entries; what is in a range: what the program's functions and the document's answer. Conditions: each theorem names its own. -/
import Derived.Test.YtnglofnelmojnaaPx0
namespace Go.Proofs.Ytnglofnelmojnaa.Pure
open Go.RowKit Go.Proofs.YtnglofnelmojnaaW.PrintWords Go.Proofs.YtnglofnelmojnaaW.PrintLast Go.Proofs.YtnglofnelmojnaaW.PrintMore Go.Proofs.Ytnglofnelmojnaa.P

theorem wf64 {a : Int} (h : (Lit.int .i64 a).wf = true) : -9223372036854775808 ≤ a ∧ a ≤ 9223372036854775807 := by
  simp only [Lit.wf, IntKind.min, IntKind.max, IntKind.signed, IntKind.bits, Bool.and_eq_true, decide_eq_true_eq, if_true] at h
  omega
theorem bl_cons (a b : UInt8) (x y : List UInt8) : Op.bytesLess (a :: x) (b :: y) = (decide (a.toNat < b.toNat) || (decide (a.toNat = b.toNat) && Op.bytesLess x y)) := by
  simp only [Op.bytesLess]
  congr 1
  congr 1
  rw [Bool.eq_iff_iff, beq_iff_eq, decide_eq_true_eq]
  exact ⟨fun h => by rw [h], fun h => UInt8.toNat_inj.mp h⟩
theorem bl_irrefl : ∀ x : List UInt8, Op.bytesLess x x = false
  | [] => rfl
  | a :: x => by rw [bl_cons, bl_irrefl x]; simp
theorem bl_asymm : ∀ x y : List UInt8, Op.bytesLess x y = true → Op.bytesLess y x = false
  | _, [], h => by simp [Op.bytesLess] at h
  | [], _ :: _, _ => rfl
  | a :: x, b :: y, h => by
    rw [bl_cons] at h ⊢
    simp only [Bool.or_eq_true, Bool.and_eq_true, decide_eq_true_eq] at h
    simp only [Bool.or_eq_false_iff, Bool.and_eq_false_iff, decide_eq_false_iff_not]
    rcases h with h | ⟨h, h2⟩
    · exact ⟨by omega, .inl (by omega)⟩
    · exact ⟨by omega, .inr (bl_asymm x y h2)⟩
theorem bl_tri : ∀ x y : List UInt8, Op.bytesLess x y = false → Op.bytesLess y x = false → x = y
  | [], [], _, _ => rfl
  | [], _ :: _, h, _ => by simp [Op.bytesLess] at h
  | _ :: _, [], _, h => by simp [Op.bytesLess] at h
  | a :: x, b :: y, h, h' => by
    rw [bl_cons] at h h'
    simp only [Bool.or_eq_false_iff, Bool.and_eq_false_iff, decide_eq_false_iff_not] at h h'
    have e : a.toNat = b.toNat := by omega
    have e1 : a = b := UInt8.toNat_inj.mp e
    rw [e1, bl_tri x y (h.2.resolve_left (fun k => k e)) (h'.2.resolve_left (fun k => k e.symm))]
theorem bl_trans : ∀ x y z : List UInt8, Op.bytesLess x y = true → Op.bytesLess y z = true → Op.bytesLess x z = true
  | _, _, [], _, h => by simp [Op.bytesLess] at h
  | _, [], _ :: _, h, _ => by simp [Op.bytesLess] at h
  | [], _ :: _, _ :: _, _, _ => rfl
  | a :: x, b :: y, c :: z, h, h' => by
    rw [bl_cons] at h h' ⊢
    simp only [Bool.or_eq_true, Bool.and_eq_true, decide_eq_true_eq] at h h' ⊢
    rcases h with h | ⟨h, h2⟩ <;> rcases h' with h' | ⟨h', h3⟩
    · exact .inl (by omega)
    · exact .inl (by omega)
    · exact .inl (by omega)
    · exact .inr ⟨by omega, bl_trans x y z h2 h3⟩
/-- Greater is: neither less nor the same. -/
theorem bl_gt (x y : List UInt8) : Op.bytesLess y x = (!Op.bytesLess x y && !(x == y)) := by
  cases h : Op.bytesLess x y with
  | true => simpa using bl_asymm x y h
  | false =>
    cases h2 : Op.bytesLess y x with
    | true =>
      have : ¬ x = y := fun e => by rw [e, bl_irrefl] at h2; cases h2
      simp [this]
    | false => simp [bl_tri x y h h2]
theorem size_list (s : ByteArray) : s.toList.length = s.size := by rw [Go.ByteArray.toList_eq, Array.length_toList]; rfl
theorem drop_bt (s : ByteArray) (i : Nat) (h : i < s.size) : ∃ c : UInt8, s.toList.drop i = c :: s.toList.drop (i + 1) ∧ bt s (i : Int) = (c.toNat : Int) := by
  have hl : i < s.toList.length := by rw [size_list]; exact h
  refine ⟨s.toList[i], List.drop_eq_getElem_cons hl, ?_⟩
  have h1 := bt_at s (i : Int) (by simpa using h)
  rw [← h1]
  congr 2
  have hd : i < s.data.toList.length := by rw [Array.length_toList]; exact h
  have : s.toList[i] = s.data.toList[i]'hd := by congr 1; exact Go.ByteArray.toList_eq s
  rw [this]
  simp
  rfl

end Go.Proofs.Ytnglofnelmojnaa.Pure
