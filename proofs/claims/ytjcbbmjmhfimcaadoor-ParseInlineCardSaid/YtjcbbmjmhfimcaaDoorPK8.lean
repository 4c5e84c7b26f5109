/- The law's own parts: what is shown ahead of each, and all the requests that a parser has. Conditions: that the package's variables lie as the program lays them. -/
import Derived.Test.YtjcbbmjmhfimcaaDoorPK7
namespace Go.Proofs.YtjcbbmjmhfimcaaDoor.P
open Go.RowKit Go.Lib Go.Proofs.YtjcbbmjmhfimcaaDoorW.PrintWords Go.Proofs.YtjcbbmjmhfimcaaDoorW.PrintLast Go.Proofs.YtjcbbmjmhfimcaaDoorW.PrintMore
attribute [local go_sem] Oper.semAt_some

def sh1 : ByteArray := ⟨#[42, 50, 13, 10, 36, 51, 13, 10, 71, 69, 84, 13, 10, 36, 49, 13, 10, 107, 13, 10, 80, 73, 78, 71]⟩
def sh2 : ByteArray := ⟨#[71, 69, 84, 32, 32, 107, 10]⟩
def sh3 : ByteArray := ⟨#[42, 120, 13, 10]⟩
def shGK : List ByteArray := [⟨#[71, 69, 84]⟩, ⟨#[107]⟩]
theorem shown_1 : splitB sh1 = (shGK, 0, ⟨#[80, 73, 78, 71]⟩) := by decide +kernel
theorem shown_2 : splitB sh2 = (shGK, 0, ⟨#[]⟩) := by decide +kernel
theorem shown_3 : (splitB sh3).2.1 = 40 := by decide +kernel
theorem shown_t : palioref04_Texts.f 5 shGK shGK = some true := by decide +kernel
theorem wr1 {j : Nat} (h : j ≤ 1000000000) : wrap64 ((j : Int) + 1) = ((j + 1 : Nat) : Int) := by
  unfold wrap64
  omega
theorem rd_get {l : List ByteArray} {j : Nat} (h : j < l.length) : rdOf ByteArray.empty l (j : Int) = l[j] := by
  unfold rdOf
  rw [Int.toNat_natCast, List.getD_eq_getElem?_getD, List.getElem?_eq_getElem h]
  rfl
theorem toList_iff (a b : ByteArray) : a.toList = b.toList ↔ a = b := by
  constructor
  · intro h
    rw [ByteArray.toList_eq, ByteArray.toList_eq] at h
    rw [← mk_data a, ← mk_data b, h]
  · rintro rfl; rfl
theorem texts_l0 (a b : List ByteArray) (hl : a.length = b.length) (hb : a.length ≤ 1000000000) : ∀ (d j k : Nat), j + d = a.length → d < k → palioref04_Texts.l0 k a b (j : Int) = some (decide (a.drop j = b.drop j)) := by
  intro d
  induction d with
  | zero =>
    intro j k hj hk
    obtain ⟨k, rfl⟩ : ∃ m, k = m + 1 := ⟨k - 1, by omega⟩
    simp only [palioref04_Texts.l0]
    rw [if_neg (by omega), List.drop_of_length_le (by omega), List.drop_of_length_le (by omega)]
    rfl
  | succ d ih =>
    intro j k hj hk
    obtain ⟨k, rfl⟩ : ∃ m, k = m + 1 := ⟨k - 1, by omega⟩
    have hja : j < a.length := by omega
    have hjb : j < b.length := by omega
    have hn := ih (j + 1) k (by omega) (by omega)
    simp only [palioref04_Texts.l0]
    rw [if_pos (by omega), if_pos (by omega), if_pos (by omega), rd_get hja, rd_get hjb, wr1 (by omega), hn]
    have e1 := List.drop_eq_getElem_cons hja
    have e2 := List.drop_eq_getElem_cons hjb
    by_cases he : a[j] = b[j]
    · rw [if_pos (by rw [he])]
      congr 1
      rw [decide_eq_decide, e1, e2, he]
      exact ⟨fun h => by rw [h], fun h => (List.cons.inj h).2⟩
    · rw [if_neg (fun h => he ((toList_iff _ _).1 h))]
      congr 1
      refine (decide_eq_false ?_).symm
      rw [e1, e2]
      exact fun h => he (List.cons.inj h).1
theorem texts_calls (a b : List ByteArray) (ha : a.length ≤ 1000000000) (A : Option Addr) (c : Nat) (B : Option Addr) (d : Nat) (w : World) (hA : Kd.C Kd.string w A a.length a) (hc : a.length ≤ c) (hB : Kd.C Kd.string w B b.length b) (hd : b.length ≤ d) :
    Calls Tryd.prog 10 #[.slice A a.length c, .slice B b.length d] w fun e w' => e = .returned (.bool (decide (a = b))) ∧ Below w.heap.size w w' := by
  have hf : palioref04_Texts.f (a.length + 1) a b = some (decide (a = b)) := by
    unfold palioref04_Texts.f
    by_cases hl : a.length = b.length
    · rw [if_pos (by omega)]
      exact texts_l0 a b hl ha a.length 0 (a.length + 1) (by omega) (by omega)
    · rw [if_neg (by omega)]
      have : a ≠ b := fun e => hl (by rw [e])
      simp [this]
  refine (palioref04_Texts.calls (a.length + 1) A c a B d b _ w hA hc hB hd hf).mono ?_
  rintro e w1 ⟨rfl, n, rfl⟩
  exact ⟨rfl, pw_below_drewN (Below.refl _ _) n⟩
set_option maxHeartbeats 8000000 in
set_option maxRecDepth 100000 in
theorem shown_calls (w : World) (hG : G w) : Calls Tryd.prog 8 #[] w fun e w' => e = .returned (.bool true) ∧ Below w.heap.size w w' := by
  have c1 := split_calls sh1 (by decide) w hG
  unfold SplitEnd at c1
  rw [shown_1] at c1
  have HG := Aside0.mk hG
  clear hG
  go_enter Tryd.func8, Tryd.ntmps8
  go_wp2_with fail
  refine c1.mono ?_
  rintro e w1 ⟨v1, rfl, h1, b1⟩
  have c2 := split_calls sh2 (by decide) w1 (HG.out.below b1)
  unfold SplitEnd at c2
  rw [shown_2] at c2
  have B1 := Aside0.mk b1
  have H1 := Aside0.mk h1
  clear c1 b1
  obtain ⟨A1, k1, rfl, l1, d1⟩ := Kd.R_reads h1
  have D1 := Aside0.mk d1
  have L1 := Aside0.mk l1
  clear h1 d1 l1
  go_wp2_with fail
  refine c2.mono ?_
  rintro e w2 ⟨v2, rfl, h2, b2⟩
  have B2 := Aside0.mk (B1.out.trans (b2.mono B1.out.size))
  have D12 := Aside0.mk (Kd.C_below D1.out b2)
  have c3 := split_calls sh3 (by decide) w2 (HG.out.below B2.out)
  unfold SplitEnd at c3
  rw [shown_3] at c3
  obtain ⟨A2, k2, rfl, l2, d2⟩ := Kd.R_reads h2
  have D2 := Aside0.mk d2
  have L2 := Aside0.mk l2
  clear h2 d2 l2 c2 b2 D1
  go_wp2_with fail
  refine c3.mono ?_
  rintro e w3 ⟨v3, rfl, h3, b3⟩
  have B3 := Aside0.mk (B2.out.trans (b3.mono B2.out.size))
  have D13 := Aside0.mk (Kd.C_below D12.out b3)
  have D23 := Aside0.mk (Kd.C_below D2.out b3)
  obtain ⟨A3, k3, rfl⟩ := Kd.R_slice h3
  clear c3 b3 h3 D12 D2
  go_wp2_with fail
  refine (texts_calls shGK shGK (by decide) A1 k1 (some ⟨w3.heap.size, 0, none⟩) 2 _ (Kd.C_alloc D13.out _) L1.out (two_row w3 _ _) (by decide)).mono ?_
  rintro e w4 ⟨rfl, b4⟩
  have B4 := Aside0.mk ((below_alloc B3.out (.cells #[.string ⟨#[71, 69, 84]⟩, .string ⟨#[107]⟩] 9)).trans (b4.mono (by have := B3.out.size; simp; omega)))
  have D24 := Aside0.mk (Kd.C_below (Kd.C_alloc D23.out (.cells #[.string ⟨#[71, 69, 84]⟩, .string ⟨#[107]⟩] 9)) b4)
  rw [show decide (shGK = shGK) = true from by simp]
  clear b4
  go_wp2_with fail
  refine (texts_calls shGK shGK (by decide) A2 k2 (some ⟨w4.heap.size, 0, none⟩) 2 _ (Kd.C_alloc D24.out _) L2.out (two_row w4 _ _) (by decide)).mono ?_
  rintro e w5 ⟨rfl, b5⟩
  have B5 := Aside0.mk ((below_alloc B4.out (.cells #[.string ⟨#[71, 69, 84]⟩, .string ⟨#[107]⟩] 9)).trans (b5.mono (by have := B4.out.size; simp; omega)))
  rw [show decide (shGK = shGK) = true from by simp]
  clear b5
  go_wp2
  go_ret
  exact ⟨rfl, B5.out⟩
end Go.Proofs.YtjcbbmjmhfimcaaDoor.P
