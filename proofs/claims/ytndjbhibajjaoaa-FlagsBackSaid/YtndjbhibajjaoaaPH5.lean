/- A text in capitals, as the program makes it: its characters below 128 as they are or capital, of all else the first byte. Conditions: that the text is at most a thousand bytes. -/
import Derived.Test.YtndjbhibajjaoaaShU
import Derived.Test.YtndjbhibajjaoaaPx0
import Derived.Outline
import Derived.WalkKit
import Derived.WalkSpells
import Derived.Lib.Hide
import Derived.Lib.OthersKept
import Derived.BigCall
namespace Go.Proofs.Ytndjbhibajjaoaa.P
open Go.RowKit Go.Proofs.YtndjbhibajjaoaaW.PrintWords Go.Proofs.YtndjbhibajjaoaaW.PrintLast Go.Proofs.YtndjbhibajjaoaaW.PrintMore

/-- A small letter's capital. -/
def cap (c : Nat) : Nat := if 97 ≤ c ∧ c ≤ 122 then c - 32 else c
/-- What one character gives. -/
def upOne (s : ByteArray) (pos : Nat) : List UInt8 := if (Utf8.decode s pos).1 < 128 then [(cap (Utf8.decode s pos).1).toUInt8] else [s.data.toList[pos]?.getD 0]
def upFrom (s : ByteArray) : Nat → Nat → List UInt8
  | 0, _ => []
  | f + 1, pos => if pos < s.size then upOne s pos ++ upFrom s f (pos + (Utf8.decode s pos).2) else []
def up (s : ByteArray) : List UInt8 := upFrom s s.size 0
theorem up_end (s : ByteArray) (f pos : Nat) (h : ¬ pos < s.size) : upFrom s f pos = [] := by
  cases f with
  | zero => rfl
  | succ f => simp [upFrom, h]
theorem width_pos (s : ByteArray) (pos : Nat) (h : pos < s.size) : 1 ≤ (Utf8.decode s pos).2 := by
  by_cases ha : (s[pos]'h).toNat < 128
  · rw [decode_ascii s pos h ha]
    exact Nat.le_refl _
  · exact (decode_high s pos h (by omega)).2
theorem rune_small (r : Nat) (h : r < 128) : Lib.runeCells (r : Int) = [Value.int .u8 r] := by
  have h2 : (r : Int) ≤ 127 := by omega
  simp only [Lib.runeCells, Lib.encodeRuneZ_one (by omega : (0 : Int) ≤ r) h2]
  rfl
theorem cap_lt (r : Nat) (h : r < 128) : cap r < 128 := by unfold cap; split <;> omega
theorem cells_one (l : List UInt8) (b : UInt8) : Lib.byteCells (l ++ [b]) = Lib.byteCells l ++ [Value.int .u8 b.toNat] := by
  unfold Lib.byteCells
  rw [List.map_append]
  rfl
theorem cells_len (l : List UInt8) : (Lib.byteCells l).length = l.length := by
  unfold Lib.byteCells
  rw [List.length_map]
theorem cells_cap (l : List UInt8) (r : Nat) (h : r < 128) : Lib.byteCells (l ++ [r.toUInt8]) = Lib.byteCells l ++ Lib.runeCells (r : Int) := by
  rw [cells_one, rune_small r h]
  congr 3
  simp
  omega
structure UpRel (s : ByteArray) (B : Nat) (w : World) (pos : Nat) (wr : World) : Prop where
  ex : ∃ (f : Nat) (acc : List UInt8), Lib.IsBuilderF 58 5 B B (Lib.byteCells acc) wr ∧ acc ++ upFrom s f pos = up s ∧ s.size ≤ pos + f ∧ acc.length ≤ pos
  it : wr.heap[B + 1]? = some (.stringIter s pos)
  bl : Below B w wr
  le : B + 1 < wr.heap.size
set_option maxHeartbeats 4000000 in
set_option maxRecDepth 100000 in
theorem upper_calls (s : ByteArray) (hs : s.size ≤ 1000) (w : World) :
    Calls Try.prog 28 #[.string s] w fun e w' => e = .returned (.string ⟨(up s).toArray⟩) ∧ Below w.heap.size w w' := by
  go_enter Try.func28, Try.ntmps28
  go_wp2
  go_loopw [] (fun wr => ∃ pos : Nat, UpRel s w.heap.size w pos wr) (fun wr => s.size - wr.iterPos (w.heap.size + 1))
  case atStart =>
    refine ⟨0, ⟨⟨s.size, [], (Lib.IsBuilderF.of (Lib.fresh_isBuilder 58 5 w)).alloc _, rfl, by omega, by simp⟩, ?_, ((Below.refl _ w).alloc (Nat.le_refl _) _).alloc (by simp) _, by simp [World.iter]⟩⟩
    have := World.iter_heap (w.alloc (.cells #[.pointer none, .slice none 0 0] 58)) s 0
    simpa using this
  case round =>
    obtain ⟨pos, ⟨f, acc, hI, hacc, hfu, hal⟩, hit, hbw, hsz⟩ := hrel
    by_cases hp : pos < s.size
    · have hnx : ∀ ty, (Instr.next (.pointer (some ⟨w.heap.size + 1, 0, none⟩)) true ty).run Try.prog wr = _ := fun ty => Lib.run_next_any_at wr (w.heap.size + 1) s pos ty hit hp
      have hwd := width_pos s pos hp
      have hd1 := decode_le s pos
      have hI2 := hI.iterAt hit (pos + (Utf8.decode s pos).2)
      have hit2 := Lib.iterAt_heap wr (w.heap.size + 1) s pos (pos + (Utf8.decode s pos).2) hit
      have hbw2 := Lib.below_iterAt hbw (k := w.heap.size + 1) (by omega) s (pos + (Utf8.decode s pos).2)
      have hsz2 : w.heap.size + 1 < (wr.iterAt (w.heap.size + 1) s (pos + (Utf8.decode s pos).2)).heap.size := by rw [Lib.iterAt_size]; omega
      obtain ⟨f, rfl⟩ : ∃ g, f = g + 1 := ⟨f - 1, by omega⟩
      have hone : upFrom s (f + 1) pos = upOne s pos ++ upFrom s f (pos + (Utf8.decode s pos).2) := by rw [upFrom, if_pos hp]
      rw [hone] at hacc
      have HA := Lib.hid hacc
      have HI := Lib.hid hit
      clear hacc hone hit
      by_cases h128 : (Utf8.decode s pos).1 < 128
      · have hup : upOne s pos = [(cap (Utf8.decode s pos).1).toUInt8] := if_pos h128
        have hcl := cap_lt _ h128
        have HU := Lib.hid hup
        clear hup
        by_cases hl : 97 ≤ (Utf8.decode s pos).1 ∧ (Utf8.decode s pos).1 ≤ 122
        · have hcap : (((cap (Utf8.decode s pos).1) : Nat) : Int) = ((Utf8.decode s pos).1 : Int) - 32 := by unfold cap; rw [if_pos hl]; omega
          have HC := Lib.hid hcap
          clear hcap
          obtain ⟨hl1, hl2⟩ := hl
          have hl1z : (97 : Int) ≤ ((Utf8.decode s pos).1 : Int) := by omega
          have hl2z : ((Utf8.decode s pos).1 : Int) ≤ 122 := by omega
          go_wp2_with fail
          rw [← HC.out]
          refine (Try.Builder_WriteRune_k w.heap.size w.heap.size _ _ (by omega) (by omega) _ hI2 (by rw [cells_len]; omega) (by omega)).mono ?_
          rintro e W1 ⟨rfl, h1, b1, k1⟩
          rw [← cells_cap _ _ hcl] at h1
          have hit3 := k1.iter hit2 (by omega)
          have hz3 := b1.size
          go_wp2
          go_roundw
          case rel => exact ⟨pos + (Utf8.decode s pos).2, ⟨⟨f, _, .inr h1, by rw [← HA.out, HU.out, List.append_assoc], by omega, by rw [List.length_append, List.length_singleton]; omega⟩, hit3, hbw2.trans b1, (Array.getElem?_eq_some_iff.1 hit3).1⟩⟩
          case measure => simp only [World.iterPos, hit3, HI.out]; omega
        · have hcap : cap (Utf8.decode s pos).1 = (Utf8.decode s pos).1 := by unfold cap; rw [if_neg hl]
          have HC := Lib.hid hcap
          clear hcap
          have h128z : ((Utf8.decode s pos).1 : Int) < 128 := by omega
          by_cases hl1 : 97 ≤ (Utf8.decode s pos).1
          all_goals
            go_wp2_with fail
            refine (Try.Builder_WriteRune_k w.heap.size w.heap.size _ _ (by omega) (by omega) _ hI2 (by rw [cells_len]; omega) (by omega)).mono ?_
            rintro e W1 ⟨rfl, h1, b1, k1⟩
            rw [← cells_cap _ _ h128] at h1
            have hit3 := k1.iter hit2 (by omega)
            have hz3 := b1.size
            go_wp2
            go_roundw
            case rel => exact ⟨pos + (Utf8.decode s pos).2, ⟨⟨f, _, .inr h1, by rw [← HA.out, HU.out, HC.out, List.append_assoc], by omega, by rw [List.length_append, List.length_singleton]; omega⟩, hit3, hbw2.trans b1, (Array.getElem?_eq_some_iff.1 hit3).1⟩⟩
            case measure => simp only [World.iterPos, hit3, HI.out]; omega
      · have hup : upOne s pos = [s.data.toList[pos]?.getD 0] := if_neg h128
        have HU := Lib.hid hup
        clear hup
        have h128z : (128 : Int) ≤ ((Utf8.decode s pos).1 : Int) := by omega
        have hpz : (pos : Int) < (s.size : Int) := by omega
        have hx : s.data.toList[pos]?.getD 0 = s[pos]'hp := by
          have h3 : pos < s.data.toList.length := hp
          rw [List.getElem?_eq_getElem h3]
          rfl
        have HX := Lib.hid hx
        clear hx
        go_wp2_with fail
        refine (Try.Builder_WriteByte_k w.heap.size w.heap.size _ _ _ hI2 (by rw [cells_len]; omega) (by omega)).mono ?_
        rintro e W1 ⟨rfl, h1, b1, k1⟩
        rw [← cells_one, ← HX.out] at h1
        have hit3 := k1.iter hit2 (by omega)
        have hz3 := b1.size
        go_wp2
        go_roundw
        case rel => exact ⟨pos + (Utf8.decode s pos).2, ⟨⟨f, _, .inr h1, by rw [← HA.out, HU.out, List.append_assoc], by omega, by rw [List.length_append, List.length_singleton]; omega⟩, hit3, hbw2.trans b1, (Array.getElem?_eq_some_iff.1 hit3).1⟩⟩
        case measure => simp only [World.iterPos, hit3, HI.out]; omega
    · have hnx : ∀ ty, (Instr.next (.pointer (some ⟨w.heap.size + 1, 0, none⟩)) true ty).run Try.prog wr = _ := fun ty => Lib.run_next_end_at wr (w.heap.size + 1) s pos ty hit hp
      have hx : acc = up s := by rw [← hacc, up_end s f pos hp, List.append_nil]
      subst hx
      clear hacc
      generalize hU : up s = U at hI ⊢
      go_wp2_with (go_at_call 37; refine (Try.Builder_String_any_k w.heap.size w.heap.size U _ hI (by omega)).mono ?_)
      rintro e W1 ⟨rfl, _, b1, _⟩
      go_wp2
      go_ret
      exact ⟨by rw [hU]; rfl, hbw.trans b1⟩
end Go.Proofs.Ytndjbhibajjaoaa.P
