/- 'x > y' of two texts, as the print writes it. -/
import Derived.Test.YtnlbdmiflihghaaWLast
import Derived.Laws.Cover1
namespace Go.Proofs.Ytnlbdmiflihghaa.P
open Go

theorem less_tri : ∀ x y : List UInt8, (!(Op.bytesLess x y || x == y)) = Op.bytesLess y x
  | [], [] => rfl
  | [], _ :: _ => rfl
  | _ :: _, [] => rfl
  | a :: x, b :: y => by
    have ih := less_tri x y
    unfold Op.bytesLess
    rw [← ih]
    rcases Nat.lt_trichotomy a.toNat b.toNat with h | h | h
    · have h1 : a < b := UInt8.lt_iff_toNat_lt.2 h
      have h2 : ¬ b < a := fun e => by have := UInt8.lt_iff_toNat_lt.1 e; omega
      have h3 : ¬ b = a := fun e => by subst e; omega
      simp [h1, h2, h3]
    · have h0 : a = b := UInt8.toNat_inj.1 h
      subst h0
      have h2 : ¬ a < a := fun e => by have := UInt8.lt_iff_toNat_lt.1 e; omega
      simp [h2]
    · have h1 : b < a := UInt8.lt_iff_toNat_lt.2 h
      have h2 : ¬ a < b := fun e => by have := UInt8.lt_iff_toNat_lt.1 e; omega
      have h3 : ¬ a = b := fun e => by subst e; omega
      simp [h1, h2, h3]
theorem gtr_text (t : TypeId) (a b : ByteArray) : binOp .gtr t (.string a) (.string b) = pure (.bool (Op.bytesLess b.toList a.toList)) := by
  rw [binOp_string_gtr, less_tri]
end Go.Proofs.Ytnlbdmiflihghaa.P
