/- strings.Builder at this program: the contracts of its WriteByte, WriteRune and String. Conditions: each theorem names its own. -/
import Derived.Shelf.Strings.Builder1
import Derived.Shelf.Strings.BuilderF
import Derived.Shelf.Strings.BuilderK
import Derived.Shelf.Strings.BuilderRune
import Derived.Test.YtegmbgjolnbgpaaDoorProg
import Derived.Test.YtegmbgjolnbgpaaDoorCA
import Derived.Outline
import Derived.WalkKit
import Derived.WalkSpells
import Derived.Lib.Hide
import Derived.Lib.OthersKept
import Derived.BigCall
namespace Go.Proofs
open Go.Shelf
def Tryd.lays169_ren : Go.Shelf.Ren := ⟨fun | 169 => 24 | n => n, fun | 70 => 65 | 9 => 9 | 0 => 0 | 72 => 67 | 37 => 63 | 127 => 78 | 3 => 3 | 5 => 5 | n => n, fun | n => n⟩
theorem Tryd.lays169 : Go.Proofs.Lays.n169 Tryd.prog Tryd.lays169_ren := {
  mixed := by kernel_rfl
  f169 := Tryd.func24.trans (congrArg some (by kernel_rfl))
  t0 := Tryd.underlying0
  a0 := Tryd.isAgg0
  z0 := Tryd.sizeOf0
  v0 := Tryd.zeroValue0
  t3 := Tryd.underlying3
  a3 := Tryd.isAgg3
  z3 := Tryd.sizeOf3
  v3 := Tryd.zeroValue3
  t9 := Tryd.underlying9
  a9 := Tryd.isAgg9
  z9 := Tryd.sizeOf9
  v9 := Tryd.zeroValue9
  t37 := Tryd.underlying63
  a37 := Tryd.isAgg63
  z37 := Tryd.sizeOf63
  v37 := Tryd.zeroValue63
  t70 := Tryd.underlying65
  a70 := Tryd.isAgg65
  z70 := Tryd.sizeOf65
  v70 := Tryd.zeroValue65
  t72 := Tryd.underlying67
  a72 := Tryd.isAgg67
  z72 := Tryd.sizeOf67
  v72 := Tryd.zeroValue67
  t127 := Tryd.underlying78
  a127 := Tryd.isAgg78
  z127 := Tryd.sizeOf78
  v127 := Tryd.zeroValue78 }
theorem Tryd.Builder_Extra_169 : Builder.Extra Tryd.prog Tryd.lays169_ren := {
  sizeBuilder := by kernel_rfl
  liesBuilder := by kernel_rfl
  t5 := Tryd.underlying5
  a5 := Tryd.isAgg5
  z5 := Tryd.sizeOf5
  v5 := Tryd.zeroValue5
  infoByte := by kernel_rfl
  cellsByte := by kernel_rfl
  sizeByte := by kernel_rfl
  neB5 := by decide }
open Go.RowKit in
/-- (*strings.Builder).String: "String returns the accumulated string.": WHATEVER THE BUILDER HOLDS; THE FORM '_k': OVER 'Lib.IsBuilderF' (a builder that 'String()' may have read), AND WITH THE FRAME THAT REACHES ABOVE THE BUILDER: 'Lib.OthersKept': every block that is not b and is no row of uint8's stands as it stood: the iterator of a range among them. (LAID: no walk: one application.) -/
theorem Tryd.Builder_String_any_k (B b : Nat) (l : List UInt8) (w : World) (h : Lib.IsBuilderF 67 5 B b (Lib.byteCells l) w) (hBw : B ≤ w.heap.size) :
    Calls Tryd.prog 24 #[.pointer (some ⟨b, 0, none⟩)] w fun e w' => e = .returned (.string ⟨l.toArray⟩) ∧ (Lib.IsBuilderF 67 5 B b (Lib.byteCells l) w' ∧ Below B w w' ∧ Lib.OthersKept 5 (some b) w w') := Any.Builder_String_any_k Tryd.lays169 Tryd.Builder_Extra_169 B b l w h hBw
def Tryd.lays167_ren : Go.Shelf.Ren := ⟨fun | 167 => 23 | 240 => 39 | 276 => 60 | n => n, fun | 0 => 0 | 4 => 4 | 5 => 5 | 9 => 9 | 20 => 20 | 37 => 63 | 70 => 65 | 72 => 67 | 75 => 58 | 164 => 103 | 80 => 71 | n => n, fun | n => n⟩
theorem Tryd.lays167 : Go.Proofs.Lays.n167 Tryd.prog Tryd.lays167_ren := {
  mixed := by kernel_rfl
  f167 := Tryd.func23.trans (congrArg some (by kernel_rfl))
  f240 := Tryd.func39.trans (congrArg some (by kernel_rfl))
  f276 := Tryd.func60.trans (congrArg some (by kernel_rfl))
  t0 := Tryd.underlying0
  a0 := Tryd.isAgg0
  z0 := Tryd.sizeOf0
  v0 := Tryd.zeroValue0
  t4 := Tryd.underlying4
  a4 := Tryd.isAgg4
  z4 := Tryd.sizeOf4
  v4 := Tryd.zeroValue4
  t5 := Tryd.underlying5
  a5 := Tryd.isAgg5
  z5 := Tryd.sizeOf5
  v5 := Tryd.zeroValue5
  t9 := Tryd.underlying9
  a9 := Tryd.isAgg9
  z9 := Tryd.sizeOf9
  v9 := Tryd.zeroValue9
  t20 := Tryd.underlying20
  a20 := Tryd.isAgg20
  z20 := Tryd.sizeOf20
  v20 := Tryd.zeroValue20
  t37 := Tryd.underlying63
  a37 := Tryd.isAgg63
  z37 := Tryd.sizeOf63
  v37 := Tryd.zeroValue63
  t70 := Tryd.underlying65
  a70 := Tryd.isAgg65
  z70 := Tryd.sizeOf65
  v70 := Tryd.zeroValue65
  t72 := Tryd.underlying67
  a72 := Tryd.isAgg67
  z72 := Tryd.sizeOf67
  v72 := Tryd.zeroValue67
  t75 := Tryd.underlying58
  a75 := Tryd.isAgg58
  z75 := Tryd.sizeOf58
  v75 := Tryd.zeroValue58
  t164 := Tryd.underlying103
  a164 := Tryd.isAgg103
  z164 := Tryd.sizeOf103
  v164 := Tryd.zeroValue103 }
theorem Tryd.Builder_Extra_167 : Builder.Extra Tryd.prog Tryd.lays167_ren := {
  sizeBuilder := by kernel_rfl
  liesBuilder := by kernel_rfl
  t5 := Tryd.underlying5
  a5 := Tryd.isAgg5
  z5 := Tryd.sizeOf5
  v5 := Tryd.zeroValue5
  infoByte := by kernel_rfl
  cellsByte := by kernel_rfl
  sizeByte := by kernel_rfl
  neB5 := by decide }
open Go.RowKit in
/-- WriteByte: one byte more. -/
theorem Tryd.Builder_WriteByte_k (B b : Nat) (bs : List Value) (c : Int) (w : World) (h : Lib.IsBuilderF 67 5 B b bs w) (hlen : bs.length + 1 ≤ 140737488355328) (hBw : B ≤ w.heap.size) :
    Calls Tryd.prog 23 #[.pointer (some ⟨b, 0, none⟩), .int .u8 c] w fun e w' => e = .returned .nilIface ∧ (Lib.BuilderAtF 67 5 B b (.pointer (some ⟨b, 0, none⟩)) (bs ++ [.int .u8 c]) w' ∧ Below B w w' ∧ Lib.OthersKept 5 (some b) w w') := Any.Builder_WriteByte_k Tryd.lays167 Tryd.Builder_Extra_167 B b bs c w h hlen hBw
def Tryd.lays168_ren : Go.Shelf.Ren := ⟨fun | 168 => 22 | 240 => 39 | 242 => 40 | 276 => 60 | 278 => 61 | n => n, fun | 0 => 0 | 3 => 3 | 4 => 4 | 5 => 5 | 9 => 9 | 20 => 20 | 21 => 21 | 37 => 63 | 46 => 154 | 51 => 32 | 70 => 65 | 72 => 67 | 75 => 58 | 164 => 103 | 80 => 71 | n => n, fun | n => n⟩
theorem Tryd.lays168 : Go.Proofs.Lays.n168 Tryd.prog Tryd.lays168_ren := {
  mixed := by kernel_rfl
  f168 := Tryd.func22.trans (congrArg some (by kernel_rfl))
  f240 := Tryd.func39.trans (congrArg some (by kernel_rfl))
  f242 := Tryd.func40.trans (congrArg some (by kernel_rfl))
  f276 := Tryd.func60.trans (congrArg some (by kernel_rfl))
  f278 := Tryd.func61.trans (congrArg some (by kernel_rfl))
  t0 := Tryd.underlying0
  a0 := Tryd.isAgg0
  z0 := Tryd.sizeOf0
  v0 := Tryd.zeroValue0
  t3 := Tryd.underlying3
  a3 := Tryd.isAgg3
  z3 := Tryd.sizeOf3
  v3 := Tryd.zeroValue3
  t4 := Tryd.underlying4
  a4 := Tryd.isAgg4
  z4 := Tryd.sizeOf4
  v4 := Tryd.zeroValue4
  t5 := Tryd.underlying5
  a5 := Tryd.isAgg5
  z5 := Tryd.sizeOf5
  v5 := Tryd.zeroValue5
  t9 := Tryd.underlying9
  a9 := Tryd.isAgg9
  z9 := Tryd.sizeOf9
  v9 := Tryd.zeroValue9
  t20 := Tryd.underlying20
  a20 := Tryd.isAgg20
  z20 := Tryd.sizeOf20
  v20 := Tryd.zeroValue20
  t21 := Tryd.underlying21
  a21 := Tryd.isAgg21
  z21 := Tryd.sizeOf21
  v21 := Tryd.zeroValue21
  t37 := Tryd.underlying63
  a37 := Tryd.isAgg63
  z37 := Tryd.sizeOf63
  v37 := Tryd.zeroValue63
  t46 := Tryd.underlying154
  a46 := Tryd.isAgg154
  z46 := Tryd.sizeOf154
  v46 := Tryd.zeroValue154
  t51 := Tryd.underlying32
  a51 := Tryd.isAgg32
  z51 := Tryd.sizeOf32
  v51 := Tryd.zeroValue32
  t70 := Tryd.underlying65
  a70 := Tryd.isAgg65
  z70 := Tryd.sizeOf65
  v70 := Tryd.zeroValue65
  t72 := Tryd.underlying67
  a72 := Tryd.isAgg67
  z72 := Tryd.sizeOf67
  v72 := Tryd.zeroValue67
  t75 := Tryd.underlying58
  a75 := Tryd.isAgg58
  z75 := Tryd.sizeOf58
  v75 := Tryd.zeroValue58
  t164 := Tryd.underlying103
  a164 := Tryd.isAgg103
  z164 := Tryd.sizeOf103
  v164 := Tryd.zeroValue103 }
theorem Tryd.Builder_Extra_168 : Builder.Extra Tryd.prog Tryd.lays168_ren := {
  sizeBuilder := by kernel_rfl
  liesBuilder := by kernel_rfl
  t5 := Tryd.underlying5
  a5 := Tryd.isAgg5
  z5 := Tryd.sizeOf5
  v5 := Tryd.zeroValue5
  infoByte := by kernel_rfl
  cellsByte := by kernel_rfl
  sizeByte := by kernel_rfl
  neB5 := by decide }
open Go.RowKit in
/-- WriteRune: a rune's bytes more. -/
theorem Tryd.Builder_WriteRune_k (B b : Nat) (bs : List Value) (r : Int) (hr0 : -2147483648 ≤ r) (hr1 : r ≤ 2147483647) (w : World) (h : Lib.IsBuilderF 67 5 B b bs w) (hlen : bs.length + 4 ≤ 140737488355328) (hBw : B ≤ w.heap.size) :
    Calls Tryd.prog 22 #[.pointer (some ⟨b, 0, none⟩), .int .i32 r] w fun e w' => e = .returned (.tuple #[.int .i64 (Lib.runeCells r).length, .nilIface]) ∧ (Lib.BuilderAtF 67 5 B b (.pointer (some ⟨b, 0, none⟩)) (bs ++ Lib.runeCells r) w' ∧ Below B w w' ∧ Lib.OthersKept 5 (some b) w w') := Any.Builder_WriteRune_k Tryd.lays168 Tryd.Builder_Extra_168 B b bs r hr0 hr1 w h hlen hBw
end Go.Proofs
/- A text in capitals, as the program makes it: its characters below 128 as they are or capital, of all else the first byte. Conditions: that the text is at most a thousand bytes. -/
namespace Go.Proofs.YtegmbgjolnbgpaaDoor.P
open Go.RowKit Go.Proofs.YtegmbgjolnbgpaaDoorW.PrintWords Go.Proofs.YtegmbgjolnbgpaaDoorW.PrintLast Go.Proofs.YtegmbgjolnbgpaaDoorW.PrintMore

/-- A small letter's capital. -/
def cap (c : Nat) : Nat := if 97 ≤ c ∧ c ≤ 122 then c - 32 else c
/-- What one character gives. -/
def upOne (s : ByteArray) (pos : Nat) : List UInt8 := if (Utf8.decode s pos).1 < 128 then [(cap (Utf8.decode s pos).1).toUInt8] else [s.data.toList[pos]?.getD 0]
def upFrom (s : ByteArray) : Nat → Nat → List UInt8
  | 0, _ => []
  | f + 1, pos => if pos < s.size then upOne s pos ++ upFrom s f (pos + (Utf8.decode s pos).2) else []
def up (s : ByteArray) : List UInt8 := upFrom s s.size 0
theorem up_end (s : ByteArray) (f pos : Nat) (h : ¬ pos < s.size) : upFrom s f pos = [] := by
  cases f with
  | zero => rfl
  | succ f => simp [upFrom, h]
theorem width_pos (s : ByteArray) (pos : Nat) (h : pos < s.size) : 1 ≤ (Utf8.decode s pos).2 := by
  by_cases ha : (s[pos]'h).toNat < 128
  · rw [decode_ascii s pos h ha]
    exact Nat.le_refl _
  · exact (decode_high s pos h (by omega)).2
theorem rune_small (r : Nat) (h : r < 128) : Lib.runeCells (r : Int) = [Value.int .u8 r] := by
  have h2 : (r : Int) ≤ 127 := by omega
  simp only [Lib.runeCells, Lib.encodeRuneZ_one (by omega : (0 : Int) ≤ r) h2]
  rfl
theorem cap_lt (r : Nat) (h : r < 128) : cap r < 128 := by unfold cap; split <;> omega
theorem cells_one (l : List UInt8) (b : UInt8) : Lib.byteCells (l ++ [b]) = Lib.byteCells l ++ [Value.int .u8 b.toNat] := by
  unfold Lib.byteCells
  rw [List.map_append]
  rfl
theorem cells_len (l : List UInt8) : (Lib.byteCells l).length = l.length := by
  unfold Lib.byteCells
  rw [List.length_map]
theorem cells_cap (l : List UInt8) (r : Nat) (h : r < 128) : Lib.byteCells (l ++ [r.toUInt8]) = Lib.byteCells l ++ Lib.runeCells (r : Int) := by
  rw [cells_one, rune_small r h]
  congr 3
  simp
  omega
structure UpRel (s : ByteArray) (B : Nat) (w : World) (pos : Nat) (wr : World) : Prop where
  ex : ∃ (f : Nat) (acc : List UInt8), Lib.IsBuilderF 67 5 B B (Lib.byteCells acc) wr ∧ acc ++ upFrom s f pos = up s ∧ s.size ≤ pos + f ∧ acc.length ≤ pos
  it : wr.heap[B + 1]? = some (.stringIter s pos)
  bl : Below B w wr
  le : B + 1 < wr.heap.size
set_option maxHeartbeats 4000000 in
set_option maxRecDepth 100000 in
theorem fupper_calls (s : ByteArray) (hs : s.size ≤ 1000) (w : World) :
    Calls Tryd.prog 74 #[.string s] w fun e w' => e = .returned (.string ⟨(up s).toArray⟩) ∧ Below w.heap.size w w' := by
  go_enter Tryd.func74, Tryd.ntmps74
  go_wp2
  go_loopw [] (fun wr => ∃ pos : Nat, UpRel s w.heap.size w pos wr) (fun wr => s.size - wr.iterPos (w.heap.size + 1))
  case atStart =>
    refine ⟨0, ⟨⟨s.size, [], (Lib.IsBuilderF.of (Lib.fresh_isBuilder 67 5 w)).alloc _, rfl, by omega, by simp⟩, ?_, ((Below.refl _ w).alloc (Nat.le_refl _) _).alloc (by simp) _, by simp [World.iter]⟩⟩
    have := World.iter_heap (w.alloc (.cells #[.pointer none, .slice none 0 0] 67)) s 0
    simpa using this
  case round =>
    obtain ⟨pos, ⟨f, acc, hI, hacc, hfu, hal⟩, hit, hbw, hsz⟩ := hrel
    by_cases hp : pos < s.size
    · have hnx : ∀ ty, (Instr.next (.pointer (some ⟨w.heap.size + 1, 0, none⟩)) true ty).run Tryd.prog wr = _ := fun ty => Lib.run_next_any_at wr (w.heap.size + 1) s pos ty hit hp
      have hwd := width_pos s pos hp
      have hd1 := decode_le s pos
      have hI2 := hI.iterAt hit (pos + (Utf8.decode s pos).2)
      have hit2 := Lib.iterAt_heap wr (w.heap.size + 1) s pos (pos + (Utf8.decode s pos).2) hit
      have hbw2 := Lib.below_iterAt hbw (k := w.heap.size + 1) (by omega) s (pos + (Utf8.decode s pos).2)
      have hsz2 : w.heap.size + 1 < (wr.iterAt (w.heap.size + 1) s (pos + (Utf8.decode s pos).2)).heap.size := by rw [Lib.iterAt_size]; omega
      obtain ⟨f, rfl⟩ : ∃ g, f = g + 1 := ⟨f - 1, by omega⟩
      have hone : upFrom s (f + 1) pos = upOne s pos ++ upFrom s f (pos + (Utf8.decode s pos).2) := by rw [upFrom, if_pos hp]
      rw [hone] at hacc
      have HA := Lib.hid hacc
      have HI := Lib.hid hit
      clear hacc hone hit
      by_cases h128 : (Utf8.decode s pos).1 < 128
      · have hup : upOne s pos = [(cap (Utf8.decode s pos).1).toUInt8] := if_pos h128
        have hcl := cap_lt _ h128
        have HU := Lib.hid hup
        clear hup
        by_cases hl : 97 ≤ (Utf8.decode s pos).1 ∧ (Utf8.decode s pos).1 ≤ 122
        · have hcap : (((cap (Utf8.decode s pos).1) : Nat) : Int) = ((Utf8.decode s pos).1 : Int) - 32 := by unfold cap; rw [if_pos hl]; omega
          have HC := Lib.hid hcap
          clear hcap
          obtain ⟨hl1, hl2⟩ := hl
          have hl1z : (97 : Int) ≤ ((Utf8.decode s pos).1 : Int) := by omega
          have hl2z : ((Utf8.decode s pos).1 : Int) ≤ 122 := by omega
          go_wp2_with fail
          rw [← HC.out]
          refine (Tryd.Builder_WriteRune_k w.heap.size w.heap.size _ _ (by omega) (by omega) _ hI2 (by rw [cells_len]; omega) (by omega)).mono ?_
          rintro e W1 ⟨rfl, h1, b1, k1⟩
          rw [← cells_cap _ _ hcl] at h1
          have hit3 := k1.iter hit2 (by omega)
          have hz3 := b1.size
          go_wp2
          go_roundw
          case rel => exact ⟨pos + (Utf8.decode s pos).2, ⟨⟨f, _, .inr h1, by rw [← HA.out, HU.out, List.append_assoc], by omega, by rw [List.length_append, List.length_singleton]; omega⟩, hit3, hbw2.trans b1, (Array.getElem?_eq_some_iff.1 hit3).1⟩⟩
          case measure => simp only [World.iterPos, hit3, HI.out]; omega
        · have hcap : cap (Utf8.decode s pos).1 = (Utf8.decode s pos).1 := by unfold cap; rw [if_neg hl]
          have HC := Lib.hid hcap
          clear hcap
          have h128z : ((Utf8.decode s pos).1 : Int) < 128 := by omega
          by_cases hl1 : 97 ≤ (Utf8.decode s pos).1
          all_goals
            go_wp2_with fail
            refine (Tryd.Builder_WriteRune_k w.heap.size w.heap.size _ _ (by omega) (by omega) _ hI2 (by rw [cells_len]; omega) (by omega)).mono ?_
            rintro e W1 ⟨rfl, h1, b1, k1⟩
            rw [← cells_cap _ _ h128] at h1
            have hit3 := k1.iter hit2 (by omega)
            have hz3 := b1.size
            go_wp2
            go_roundw
            case rel => exact ⟨pos + (Utf8.decode s pos).2, ⟨⟨f, _, .inr h1, by rw [← HA.out, HU.out, HC.out, List.append_assoc], by omega, by rw [List.length_append, List.length_singleton]; omega⟩, hit3, hbw2.trans b1, (Array.getElem?_eq_some_iff.1 hit3).1⟩⟩
            case measure => simp only [World.iterPos, hit3, HI.out]; omega
      · have hup : upOne s pos = [s.data.toList[pos]?.getD 0] := if_neg h128
        have HU := Lib.hid hup
        clear hup
        have h128z : (128 : Int) ≤ ((Utf8.decode s pos).1 : Int) := by omega
        have hpz : (pos : Int) < (s.size : Int) := by omega
        have hx : s.data.toList[pos]?.getD 0 = s[pos]'hp := by
          have h3 : pos < s.data.toList.length := hp
          rw [List.getElem?_eq_getElem h3]
          rfl
        have HX := Lib.hid hx
        clear hx
        go_wp2_with fail
        refine (Tryd.Builder_WriteByte_k w.heap.size w.heap.size _ _ _ hI2 (by rw [cells_len]; omega) (by omega)).mono ?_
        rintro e W1 ⟨rfl, h1, b1, k1⟩
        rw [← cells_one, ← HX.out] at h1
        have hit3 := k1.iter hit2 (by omega)
        have hz3 := b1.size
        go_wp2
        go_roundw
        case rel => exact ⟨pos + (Utf8.decode s pos).2, ⟨⟨f, _, .inr h1, by rw [← HA.out, HU.out, List.append_assoc], by omega, by rw [List.length_append, List.length_singleton]; omega⟩, hit3, hbw2.trans b1, (Array.getElem?_eq_some_iff.1 hit3).1⟩⟩
        case measure => simp only [World.iterPos, hit3, HI.out]; omega
    · have hnx : ∀ ty, (Instr.next (.pointer (some ⟨w.heap.size + 1, 0, none⟩)) true ty).run Tryd.prog wr = _ := fun ty => Lib.run_next_end_at wr (w.heap.size + 1) s pos ty hit hp
      have hx : acc = up s := by rw [← hacc, up_end s f pos hp, List.append_nil]
      subst hx
      clear hacc
      generalize hU : up s = U at hI ⊢
      go_wp2_with (go_at_call 24; refine (Tryd.Builder_String_any_k w.heap.size w.heap.size U _ hI (by omega)).mono ?_)
      rintro e W1 ⟨rfl, _, b1, _⟩
      go_wp2
      go_ret
      exact ⟨by rw [hU]; rfl, hbw.trans b1⟩
set_option maxHeartbeats 4000000 in
set_option maxRecDepth 100000 in
theorem upper_calls (s : ByteArray) (hs : s.size ≤ 1000) (w : World) :
    Calls Tryd.prog 16 #[.string s] w fun e w' => e = .returned (.string ⟨(up s).toArray⟩) ∧ Below w.heap.size w w' := by
  go_enter Tryd.func16, Tryd.ntmps16
  go_wp2
  go_loopw [] (fun wr => ∃ pos : Nat, UpRel s w.heap.size w pos wr) (fun wr => s.size - wr.iterPos (w.heap.size + 1))
  case atStart =>
    refine ⟨0, ⟨⟨s.size, [], (Lib.IsBuilderF.of (Lib.fresh_isBuilder 67 5 w)).alloc _, rfl, by omega, by simp⟩, ?_, ((Below.refl _ w).alloc (Nat.le_refl _) _).alloc (by simp) _, by simp [World.iter]⟩⟩
    have := World.iter_heap (w.alloc (.cells #[.pointer none, .slice none 0 0] 67)) s 0
    simpa using this
  case round =>
    obtain ⟨pos, ⟨f, acc, hI, hacc, hfu, hal⟩, hit, hbw, hsz⟩ := hrel
    by_cases hp : pos < s.size
    · have hnx : ∀ ty, (Instr.next (.pointer (some ⟨w.heap.size + 1, 0, none⟩)) true ty).run Tryd.prog wr = _ := fun ty => Lib.run_next_any_at wr (w.heap.size + 1) s pos ty hit hp
      have hwd := width_pos s pos hp
      have hd1 := decode_le s pos
      have hI2 := hI.iterAt hit (pos + (Utf8.decode s pos).2)
      have hit2 := Lib.iterAt_heap wr (w.heap.size + 1) s pos (pos + (Utf8.decode s pos).2) hit
      have hbw2 := Lib.below_iterAt hbw (k := w.heap.size + 1) (by omega) s (pos + (Utf8.decode s pos).2)
      have hsz2 : w.heap.size + 1 < (wr.iterAt (w.heap.size + 1) s (pos + (Utf8.decode s pos).2)).heap.size := by rw [Lib.iterAt_size]; omega
      obtain ⟨f, rfl⟩ : ∃ g, f = g + 1 := ⟨f - 1, by omega⟩
      have hone : upFrom s (f + 1) pos = upOne s pos ++ upFrom s f (pos + (Utf8.decode s pos).2) := by rw [upFrom, if_pos hp]
      rw [hone] at hacc
      have HA := Lib.hid hacc
      have HI := Lib.hid hit
      clear hacc hone hit
      by_cases h128 : (Utf8.decode s pos).1 < 128
      · have hup : upOne s pos = [(cap (Utf8.decode s pos).1).toUInt8] := if_pos h128
        have hcl := cap_lt _ h128
        have HU := Lib.hid hup
        clear hup
        by_cases hl : 97 ≤ (Utf8.decode s pos).1 ∧ (Utf8.decode s pos).1 ≤ 122
        · have hcap : (((cap (Utf8.decode s pos).1) : Nat) : Int) = ((Utf8.decode s pos).1 : Int) - 32 := by unfold cap; rw [if_pos hl]; omega
          have HC := Lib.hid hcap
          clear hcap
          obtain ⟨hl1, hl2⟩ := hl
          have hl1z : (97 : Int) ≤ ((Utf8.decode s pos).1 : Int) := by omega
          have hl2z : ((Utf8.decode s pos).1 : Int) ≤ 122 := by omega
          go_wp2_with fail
          rw [← HC.out]
          refine (Tryd.Builder_WriteRune_k w.heap.size w.heap.size _ _ (by omega) (by omega) _ hI2 (by rw [cells_len]; omega) (by omega)).mono ?_
          rintro e W1 ⟨rfl, h1, b1, k1⟩
          rw [← cells_cap _ _ hcl] at h1
          have hit3 := k1.iter hit2 (by omega)
          have hz3 := b1.size
          go_wp2
          go_roundw
          case rel => exact ⟨pos + (Utf8.decode s pos).2, ⟨⟨f, _, .inr h1, by rw [← HA.out, HU.out, List.append_assoc], by omega, by rw [List.length_append, List.length_singleton]; omega⟩, hit3, hbw2.trans b1, (Array.getElem?_eq_some_iff.1 hit3).1⟩⟩
          case measure => simp only [World.iterPos, hit3, HI.out]; omega
        · have hcap : cap (Utf8.decode s pos).1 = (Utf8.decode s pos).1 := by unfold cap; rw [if_neg hl]
          have HC := Lib.hid hcap
          clear hcap
          have h128z : ((Utf8.decode s pos).1 : Int) < 128 := by omega
          by_cases hl1 : 97 ≤ (Utf8.decode s pos).1
          all_goals
            go_wp2_with fail
            refine (Tryd.Builder_WriteRune_k w.heap.size w.heap.size _ _ (by omega) (by omega) _ hI2 (by rw [cells_len]; omega) (by omega)).mono ?_
            rintro e W1 ⟨rfl, h1, b1, k1⟩
            rw [← cells_cap _ _ h128] at h1
            have hit3 := k1.iter hit2 (by omega)
            have hz3 := b1.size
            go_wp2
            go_roundw
            case rel => exact ⟨pos + (Utf8.decode s pos).2, ⟨⟨f, _, .inr h1, by rw [← HA.out, HU.out, HC.out, List.append_assoc], by omega, by rw [List.length_append, List.length_singleton]; omega⟩, hit3, hbw2.trans b1, (Array.getElem?_eq_some_iff.1 hit3).1⟩⟩
            case measure => simp only [World.iterPos, hit3, HI.out]; omega
      · have hup : upOne s pos = [s.data.toList[pos]?.getD 0] := if_neg h128
        have HU := Lib.hid hup
        clear hup
        have h128z : (128 : Int) ≤ ((Utf8.decode s pos).1 : Int) := by omega
        have hpz : (pos : Int) < (s.size : Int) := by omega
        have hx : s.data.toList[pos]?.getD 0 = s[pos]'hp := by
          have h3 : pos < s.data.toList.length := hp
          rw [List.getElem?_eq_getElem h3]
          rfl
        have HX := Lib.hid hx
        clear hx
        go_wp2_with fail
        refine (Tryd.Builder_WriteByte_k w.heap.size w.heap.size _ _ _ hI2 (by rw [cells_len]; omega) (by omega)).mono ?_
        rintro e W1 ⟨rfl, h1, b1, k1⟩
        rw [← cells_one, ← HX.out] at h1
        have hit3 := k1.iter hit2 (by omega)
        have hz3 := b1.size
        go_wp2
        go_roundw
        case rel => exact ⟨pos + (Utf8.decode s pos).2, ⟨⟨f, _, .inr h1, by rw [← HA.out, HU.out, List.append_assoc], by omega, by rw [List.length_append, List.length_singleton]; omega⟩, hit3, hbw2.trans b1, (Array.getElem?_eq_some_iff.1 hit3).1⟩⟩
        case measure => simp only [World.iterPos, hit3, HI.out]; omega
    · have hnx : ∀ ty, (Instr.next (.pointer (some ⟨w.heap.size + 1, 0, none⟩)) true ty).run Tryd.prog wr = _ := fun ty => Lib.run_next_end_at wr (w.heap.size + 1) s pos ty hit hp
      have hx : acc = up s := by rw [← hacc, up_end s f pos hp, List.append_nil]
      subst hx
      clear hacc
      generalize hU : up s = U at hI ⊢
      go_wp2_with (go_at_call 24; refine (Tryd.Builder_String_any_k w.heap.size w.heap.size U _ hI (by omega)).mono ?_)
      rintro e W1 ⟨rfl, _, b1, _⟩
      go_wp2
      go_ret
      exact ⟨by rw [hU]; rfl, hbw.trans b1⟩
end Go.Proofs.YtegmbgjolnbgpaaDoor.P
