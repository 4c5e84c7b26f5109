/- The document's capitals, in plain Lean. Conditions: that the text is at most a thousand bytes. -/
import Derived.Test.YtndjbhibajjaoaaPH7
namespace Go.Proofs.Ytndjbhibajjaoaa.P
open Go.RowKit Go.Proofs.YtndjbhibajjaoaaW.PrintWords Go.Proofs.YtndjbhibajjaoaaW.PrintLast Go.Proofs.YtndjbhibajjaoaaW.PrintMore

theorem bt_nat (s : ByteArray) (j : Nat) (h : j < s.data.toList.length) : bt s (j : Int) = ((s.data.toList[j]).toNat : Int) := by
  unfold bt
  rw [dif_pos (show ((j : Nat) : Int).toNat < s.size from h)]
  rfl
theorem wr1 {j : Nat} (h : j ≤ 1000) : wrap64 ((j : Int) + 1) = ((j + 1 : Nat) : Int) := by
  unfold wrap64
  omega
def capN (b : UInt8) : Int := (cap b.toNat : Int)
theorem upper_l0 (s : ByteArray) (hs : s.size ≤ 1000) : ∀ (d j k : Nat), j + d = s.data.toList.length → d < k →
    palioref12_Upper.l0 k s ((s.data.toList.take j).map capN) (j : Int) = some (strOfNums (s.data.toList.map capN)) := by
  intro d
  induction d with
  | zero =>
    intro j k hj hk
    obtain ⟨k, rfl⟩ : ∃ m, k = m + 1 := ⟨k - 1, by omega⟩
    have h2 : s.data.toList.length = s.size := rfl
    simp only [palioref12_Upper.l0]
    rw [if_neg (by omega), List.take_of_length_le (by omega)]
  | succ d ih =>
    intro j k hj hk
    obtain ⟨k, rfl⟩ : ∃ m, k = m + 1 := ⟨k - 1, by omega⟩
    have h2 : s.data.toList.length = s.size := rfl
    have hlt : j < s.data.toList.length := by omega
    have hn := ih (j + 1) k (by omega) (by omega)
    have ht : (s.data.toList.take (j + 1)).map capN = (s.data.toList.take j).map capN ++ [capN (s.data.toList[j])] := by
      rw [List.take_succ_eq_append_getElem hlt, List.map_append]
      rfl
    have hl : ((s.data.toList.take j).map capN).length ≤ 1000 := by rw [List.length_map, List.length_take]; omega
    have hb := bt_nat s j hlt
    have hlt256 : (s.data.toList[j]).toNat < 256 := (s.data.toList[j]).toNat_lt
    rw [ht] at hn
    simp only [palioref12_Upper.l0]
    rw [if_pos (by omega), if_pos (by omega), hb, wr1 (by omega)]
    unfold capN cap at hn
    by_cases h97 : (97 : Int) ≤ ((s.data.toList[j]).toNat : Int)
    · rw [if_pos (by omega)]
      by_cases h122 : ((s.data.toList[j]).toNat : Int) ≤ 122
      · rw [if_pos h122, if_pos (by omega)]
        rw [if_pos (by omega)] at hn
        rw [show (((s.data.toList[j]).toNat : Int) - 32) % 256 = (((s.data.toList[j]).toNat - 32 : Nat) : Int) by omega]
        exact hn
      · rw [if_neg h122, if_pos (by omega)]
        rw [if_neg (by omega)] at hn
        exact hn
    · rw [if_neg (by omega), if_pos (by omega)]
      rw [if_neg (by omega)] at hn
      exact hn
theorem refUp : RefUp := by
  intro s hs
  refine ⟨s.data.toList.length + 1, ?_⟩
  have := upper_l0 s hs s.data.toList.length 0 (s.data.toList.length + 1) (by omega) (by omega)
  unfold palioref12_Upper.f
  refine (Eq.trans ?_ this).trans ?_
  · rfl
  · congr 1
    unfold strOfNums rup
    rw [List.map_map]
    rfl
end Go.Proofs.Ytndjbhibajjaoaa.P
