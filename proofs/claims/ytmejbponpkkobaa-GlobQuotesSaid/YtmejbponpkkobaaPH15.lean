/- A pattern made of a text: ahead of each of the four signs stands a backslash. Conditions: that the text is at most a million bytes. -/
import Derived.Test.YtmejbponpkkobaaPH11
import Derived.Test.YtmejbponpkkobaaShB
namespace Go.Proofs.Ytmejbponpkkobaa.P
open Go.RowKit Go.Proofs.YtmejbponpkkobaaW.PrintWords Go.Proofs.YtmejbponpkkobaaW.PrintLast Go.Proofs.YtmejbponpkkobaaW.PrintMore

def qb (b : UInt8) : List UInt8 := if signB b then [92, b] else [b]
/-- What is quoted. -/
def qt (l : List UInt8) : List UInt8 := l.flatMap qb
theorem qt_len (l : List UInt8) : (qt l).length ≤ 2 * l.length := by
  induction l with
  | nil => simp [qt]
  | cons b l ih =>
    have : (qb b).length ≤ 2 := by unfold qb; split <;> simp
    unfold qt at *
    rw [List.flatMap_cons, List.length_append, List.length_cons]
    omega
theorem byte_sign (x : UInt8) : decide (0 ≤ Lib.indexByte [42, 63, 91, 92] x) = signB x := by
  by_cases h : x.toNat < 128
  · have := sign_small x.toNat h
    have h2 : x.toNat.toUInt8 = x := by simp
    rw [h2] at this
    exact this
  · rw [not_four x (by omega) _ (by decide)]
    unfold signB
    rw [sign_high _ (by omega)]
    rfl
theorem cells_one (l : List UInt8) (b : UInt8) : Lib.byteCells (l ++ [b]) = Lib.byteCells l ++ [Value.int .u8 b.toNat] := by
  unfold Lib.byteCells
  rw [List.map_append]
  rfl
theorem cells_len (l : List UInt8) : (Lib.byteCells l).length = l.length := by
  unfold Lib.byteCells
  rw [List.length_map]
set_option maxHeartbeats 4000000 in
set_option maxRecDepth 100000 in
theorem quote_calls (s : ByteArray) (hs : s.size ≤ 1000000) (w : World) : Calls Try.prog 12 #[.string s] w fun e w' => e = .returned (.string ⟨(qt s.data.toList).toArray⟩) ∧ Below w.heap.size w w' := by
  have hql := qt_len s.data.toList
  have hsl : s.data.toList.length = s.size := rfl
  have HQ := Aside0.mk hql
  have HS := Aside0.mk hsl
  clear hql hsl
  go_enter Try.func12, Try.ntmps12
  go_wp2
  go_loopg [4, 7] s.size (fun gg _ s7 wr => ∃ i : Nat, i ≤ s.size ∧ s.size - i ≤ gg ∧ s7 = .int .i64 i ∧ Aside0 (Lib.IsBuilder 40 5 w.heap.size w.heap.size (Lib.byteCells (qt (s.data.toList.take i))) wr) ∧ Aside0 (Below w.heap.size w wr))
  case atStart => exact ⟨0, Nat.zero_le _, by omega, rfl, ⟨Lib.fresh_isBuilder 40 5 w⟩, ⟨below_alloc (Below.refl _ _) _⟩⟩
  case round =>
    obtain ⟨i, hi, hg, rfl, HI, BW⟩ := hrel
    have hlen : (Lib.byteCells (qt (s.data.toList.take i))).length ≤ 2000000 := by
      rw [cells_len]
      have := qt_len (s.data.toList.take i)
      rw [List.length_take] at this
      omega
    have HLen := Aside0.mk hlen
    clear hlen
    by_cases hlt : i < s.size
    · have hltz : (i : Int) < (s.size : Int) := by omega
      obtain ⟨x, hx⟩ : ∃ x, x = s[i]'hlt := ⟨_, rfl⟩
      have hnext : qt (s.data.toList.take (i + 1)) = qt (s.data.toList.take i) ++ qb x := by
        unfold qt
        rw [List.take_succ_eq_append_getElem (by rw [HS.out]; exact hlt), List.flatMap_append, hx]
        simp
        rfl
      have hsg := byte_sign x
      have HN := Aside0.mk hnext
      have HG := Aside0.mk hsg
      have HX := Aside0.mk hx
      have hbs := BW.out.size
      clear hnext hsg
      cases hq : signB x with
      | true =>
        go_wp2_with fail
        rw [← hx]
        refine (Try.strings_IndexByte _ _ _).mono ?_
        rintro e w1 ⟨rfl, rfl⟩
        rw [show ((x.toNat : Int).toNat.toUInt8) = x by simp, show (⟨#[42, 63, 91, 92]⟩ : ByteArray).data.toList = [42, 63, 91, 92] from rfl]
        have h0 : 0 ≤ Lib.indexByte [42, 63, 91, 92] x := of_decide_eq_true (by rw [HG.out, hq])
        generalize Lib.indexByte [42, 63, 91, 92] x = v at h0 ⊢
        go_wp2_with fail
        refine (Try.Builder_WriteByte w.heap.size w.heap.size _ 92 _ HI.out (by have := HLen.out; omega) hbs).mono ?_
        rintro e w2 ⟨rfl, hI2, hb2⟩
        have hbs2 : w.heap.size ≤ w2.heap.size := Nat.le_trans hbs hb2.size
        go_wp2_with fail
        rw [← hx]
        refine (Try.Builder_WriteByte w.heap.size w.heap.size _ (x.toNat : Int) _ (.inr hI2) (by have := HLen.out; rw [List.length_append, List.length_singleton]; omega) hbs2).mono ?_
        rintro e w3 ⟨rfl, hI3, hb3⟩
        have HI3 : Aside0 (Lib.IsBuilder 40 5 w.heap.size w.heap.size (Lib.byteCells (qt (s.data.toList.take (i + 1)))) w3) := ⟨by
          rw [HN.out, qb, if_pos hq, show qt (s.data.toList.take i) ++ [92, x] = (qt (s.data.toList.take i) ++ [92]) ++ [x] by simp, cells_one, cells_one]
          exact .inr hI3⟩
        go_wp2
        go_roundg (s.size - (i + 1))
        case measure => omega
        case rel => exact ⟨i + 1, by omega, by omega, by go_num, HI3, ⟨(BW.out.trans hb2).trans hb3⟩⟩
      | false =>
        go_wp2_with fail
        rw [← hx]
        refine (Try.strings_IndexByte _ _ _).mono ?_
        rintro e w1 ⟨rfl, rfl⟩
        rw [show ((x.toNat : Int).toNat.toUInt8) = x by simp, show (⟨#[42, 63, 91, 92]⟩ : ByteArray).data.toList = [42, 63, 91, 92] from rfl]
        have h0 : ¬ 0 ≤ Lib.indexByte [42, 63, 91, 92] x := of_decide_eq_false (by rw [HG.out, hq])
        generalize Lib.indexByte [42, 63, 91, 92] x = v at h0 ⊢
        go_wp2_with fail
        rw [← hx]
        refine (Try.Builder_WriteByte w.heap.size w.heap.size _ (x.toNat : Int) _ HI.out (by have := HLen.out; omega) hbs).mono ?_
        rintro e w3 ⟨rfl, hI3, hb3⟩
        have HI3 : Aside0 (Lib.IsBuilder 40 5 w.heap.size w.heap.size (Lib.byteCells (qt (s.data.toList.take (i + 1)))) w3) := ⟨by
          rw [HN.out, qb, if_neg (by rw [hq]; simp), cells_one]
          exact .inr hI3⟩
        go_wp2
        go_roundg (s.size - (i + 1))
        case measure => omega
        case rel => exact ⟨i + 1, by omega, by omega, by go_num, HI3, ⟨BW.out.trans hb3⟩⟩
    · have : i = s.size := by omega
      have HI2 : Aside0 (Lib.IsBuilder 40 5 w.heap.size w.heap.size (Lib.byteCells (qt s.data.toList)) wr) := ⟨by
        have := HI.out
        rw [List.take_of_length_le (by rw [HS.out]; omega)] at this
        exact this⟩
      have hltz : ¬ (i : Int) < (s.size : Int) := by omega
      generalize hQ : qt s.data.toList = Q at HI2 ⊢
      go_wp2_with fail
      refine (Try.Builder_String_any w.heap.size w.heap.size Q _ HI2.out BW.out.size).mono ?_
      rintro e w3 ⟨rfl, hb3⟩
      go_wp2
      go_ret
      exact ⟨by rw [hQ]; rfl, BW.out.trans hb3⟩
def glob_Quote.f (s : ByteArray) : Option ByteArray := if s.size ≤ 1000000 then some ⟨(qt s.data.toList).toArray⟩ else none
theorem glob_Quote.calls (s : ByteArray) (r : ByteArray) (w : World) (h : glob_Quote.f s = some r) : Calls Try.prog 12 #[.string s] w fun e w' => e = .returned (.string r) ∧ Below w.heap.size w w' := by
  unfold glob_Quote.f at h
  by_cases hs : s.size ≤ 1000000
  · rw [if_pos hs] at h
    obtain rfl := Option.some.inj h
    exact quote_calls s hs w
  · rw [if_neg hs] at h
    cases h
end Go.Proofs.Ytmejbponpkkobaa.P
