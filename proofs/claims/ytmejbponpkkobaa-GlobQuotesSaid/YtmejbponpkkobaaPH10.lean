/- Where a character stands among the four signs of a pattern: the library's IndexRune at them. Conditions: each theorem names its own. -/
import Derived.Test.YtmejbponpkkobaaShA
import Derived.Test.YtmejbponpkkobaaPH7
import Derived.Test.YtmejbponpkkobaaPureRunes
import Derived.WalkMore
import Derived.StillTailTactics
import Derived.Laws.Runes
import Derived.Deep.QuietTactic
import Derived.BigQuiet
namespace Go.Proofs.Ytmejbponpkkobaa.P
open Go.RowKit Go.Proofs.YtmejbponpkkobaaW.PrintWords Go.Proofs.YtmejbponpkkobaaW.PrintLast Go.Proofs.YtmejbponpkkobaaW.PrintMore

/-- The four signs. -/
def four : ByteArray := ⟨#[42, 63, 91, 92]⟩
theorem runes_four : runes four = [42, 63, 91, 92] := by
  rw [runes_rL]
  show rL [42, 63, 91, 92] = _
  rw [rL_ascii _ (by decide)]
  decide
set_option maxHeartbeats 4000000 in
set_option maxRecDepth 100000 in
theorem index_error (w : World) : Calls Try.prog 40 #[.string four, .int .i32 65533] w fun e w' => e = .returned (.int .i64 (-1)) ∧ Below w.heap.size w w' := by
  go_enter Try.func40, Try.ntmps40
  go_wp2
  go_loopg [5, 6] 4 (fun gg s5 s6 wr => ∃ (j pos fuel : Nat), 4 - j ≤ gg ∧ Aside0 (At four w j pos fuel wr))
  case atStart => exact ⟨0, 0, four.size, by omega, ⟨⟨Nat.zero_le _, by simp [World.iter_heap], below_alloc (Below.refl _ _) _, rfl, by omega⟩⟩⟩
  case round =>
    obtain ⟨j, pos, fuel, hg, HA⟩ := hrel
    by_cases hp : pos < four.size
    · have hnx : ∀ ty, (Instr.next (.pointer (some ⟨w.heap.size, 0, none⟩)) true ty).run Try.prog wr = _ := fun ty => Lib.run_next_any_at wr w.heap.size four pos ty HA.out.it hp
      obtain ⟨f, rfl, hd, hlt, hA⟩ := HA.out.step hp
      have HA1 := Aside0.mk hA
      clear hA
      obtain ⟨r, hr⟩ : ∃ r : Int, r = ((Utf8.decode four pos).1 : Int) := ⟨_, rfl⟩
      rw [← hr] at hnx hd
      have Hr := Aside0.mk hr
      clear hr
      rw [runes_four] at hd hlt
      have hne : r ≠ 65533 := by
        have hm : r ∈ ([42, 63, 91, 92] : List Int) := List.mem_of_mem_drop (by rw [hd]; exact List.mem_cons_self)
        simp at hm
        omega
      simp at hlt
      clear hd
      go_wp2
      go_roundg (4 - (j + 1))
      case measure => omega
      case rel => exact ⟨j + 1, pos + (Utf8.decode four pos).2, f, by omega, HA1⟩
    · have hnx : ∀ ty, (Instr.next (.pointer (some ⟨w.heap.size, 0, none⟩)) true ty).run Try.prog wr = _ := fun ty => Lib.run_next_end_at wr w.heap.size four pos ty HA.out.it hp
      go_wp2
      go_ret
      exact ⟨rfl, HA.out.bel⟩
theorem not_four (x : UInt8) (h : 128 ≤ x.toNat) : ∀ l : List UInt8, (∀ y, y ∈ l → y.toNat < 128) → Lib.indexByte l x = -1
  | [], _ => rfl
  | y :: l, hl => by
    have h1 := hl y List.mem_cons_self
    have h2 : (y == x) = false := by
      rw [beq_eq_false_iff_ne]
      intro e
      rw [e] at h1
      omega
    have h3 := not_four x h l (fun z hz => hl z (List.mem_cons_of_mem _ hz))
    rw [Lib.indexByte, h2, h3]
    rfl
theorem byte_none (s : ByteArray) (x : UInt8) (hx : 128 ≤ x.toNat) (hs : ∀ y, y ∈ s.data.toList → y.toNat < 128) (w : World) : Calls Try.prog 21 #[.string s, .int .u8 (x.toNat : Int)] w fun e w' => e = .returned (.int .i64 (-1)) ∧ w' = w := by
  refine (Try.strings_IndexByte s (x.toNat : Int) w).mono ?_
  rintro e w' ⟨rfl, rfl⟩
  have h1 : ((x.toNat : Int).toNat.toUInt8) = x := by simp
  rw [h1, not_four x hx _ hs]
  exact ⟨rfl, rfl⟩
theorem four_part (a b : Nat) : ∀ y, y ∈ (four.extract a b).data.toList → y.toNat < 128 := by
  intro y hy
  rw [ByteArray.data_extract, Array.toList_extract] at hy
  have h2 : y ∈ four.data.toList := by
    simp only [List.extract] at hy
    exact List.mem_of_mem_drop (List.mem_of_mem_take hy)
  have : ∀ z, z ∈ ([42, 63, 91, 92] : List UInt8) → z.toNat < 128 := by decide
  exact this y h2
set_option maxHeartbeats 4000000 in
set_option maxRecDepth 100000 in
theorem index_two (r : Int) (b1 b2 : UInt8) (h0 : 128 ≤ r) (h1 : r ≠ 65533) (hv : Lib.validRune r = true) (he : Utf8.encode r = ⟨#[b1, b2]⟩) (hb : 128 ≤ b2.toNat) (w : World) : Calls Try.prog 40 #[.string four, .int .i32 r] w fun e w' => e = .returned (.int .i64 (-1)) ∧ Below w.heap.size w w' := by
  have hnot : ¬ r < 128 := by omega
  go_enter Try.func40, Try.ntmps40
  go_wp2_with fail
  refine (Try.utf8_ValidRune r _).mono ?_
  rintro e w1 ⟨rfl, rfl⟩
  rw [hv]
  go_wp2_with fail
  go_step3
  go_wp2_with fail
  go_loopg [9] 1 (fun _gg s9 wr => s9 = .int .i64 1 ∧ Aside0 (wr = w1))
  case atStart => exact ⟨rfl, ⟨rfl⟩⟩
  case round =>
    obtain ⟨rfl, HW⟩ := hrel
    have hbz : (128 : Int) ≤ (b2.toNat : Int) := by omega
    have hf4 : four.size = 4 := rfl
    have hq1 : (four[1]'(by decide)).toNat = 63 := rfl
    have hq2 : ((⟨#[b1, b2]⟩ : ByteArray)[1]'(show 1 < 2 by omega)).toNat = b2.toNat := rfl
    have hq3 : ¬ (63 : Int) = (b2.toNat : Int) := by omega
    have hw2 : IntKind.i64.wrap 2 = 2 := by decide
    go_wp2_with fail
    go_step3
    go_wp2_with fail
    go_quiet (fail)
    go_wp2_with fail
    go_still_tail 7, (by kernel_rfl)
    change wpList _ _ _ _ _ (World.drew _)
    have hB : Below w1.heap.size w1 (World.drew (wr.drewN nq)) := by rw [HW.out]; exact below_drew1 (pw_below_drewN (Below.refl _ _) _)
    generalize (wr.drewN nq).drew = w5 at hB ⊢
    go_wp2_with fail
    refine (byte_none _ b2 hb (four_part 2 4) _).mono ?_
    rintro e w6 ⟨rfl, rfl⟩
    go_wp2
    (rw [Exit.noGoto_ret]; dsimp only [Exit.inBlock, Exit.then]; rw [Exit.noGoto_ret]; dsimp only [Exit.inBlock, Exit.then])
    go_ret
    exact ⟨rfl, hB⟩
set_option maxHeartbeats 4000000 in
set_option maxRecDepth 100000 in
theorem index_three (r : Int) (b1 b2 b3 : UInt8) (h0 : 128 ≤ r) (h1 : r ≠ 65533) (hv : Lib.validRune r = true) (he : Utf8.encode r = ⟨#[b1, b2, b3]⟩) (hb : 128 ≤ b3.toNat) (w : World) : Calls Try.prog 40 #[.string four, .int .i32 r] w fun e w' => e = .returned (.int .i64 (-1)) ∧ Below w.heap.size w w' := by
  have hnot : ¬ r < 128 := by omega
  go_enter Try.func40, Try.ntmps40
  go_wp2_with fail
  refine (Try.utf8_ValidRune r _).mono ?_
  rintro e w1 ⟨rfl, rfl⟩
  rw [hv]
  go_wp2_with fail
  go_step3
  go_wp2_with fail
  go_loopg [9] 1 (fun _gg s9 wr => s9 = .int .i64 2 ∧ Aside0 (wr = w1))
  case atStart => exact ⟨rfl, ⟨rfl⟩⟩
  case round =>
    obtain ⟨rfl, HW⟩ := hrel
    have hbz : (128 : Int) ≤ (b3.toNat : Int) := by omega
    have hf4 : four.size = 4 := rfl
    have hq1 : (four[2]'(by decide)).toNat = 91 := rfl
    have hq2 : ((⟨#[b1, b2, b3]⟩ : ByteArray)[2]'(show 2 < 3 by omega)).toNat = b3.toNat := rfl
    have hq3 : ¬ (91 : Int) = (b3.toNat : Int) := by omega
    have hw2 : IntKind.i64.wrap 3 = 3 := by decide
    go_wp2_with fail
    go_step3
    go_wp2_with fail
    go_quiet (fail)
    go_wp2_with fail
    go_still_tail 7, (by kernel_rfl)
    change wpList _ _ _ _ _ (World.drew _)
    have hB : Below w1.heap.size w1 (World.drew (wr.drewN nq)) := by rw [HW.out]; exact below_drew1 (pw_below_drewN (Below.refl _ _) _)
    generalize (wr.drewN nq).drew = w5 at hB ⊢
    go_wp2_with fail
    refine (byte_none _ b3 hb (four_part 3 4) _).mono ?_
    rintro e w6 ⟨rfl, rfl⟩
    go_wp2
    (rw [Exit.noGoto_ret]; dsimp only [Exit.inBlock, Exit.then]; rw [Exit.noGoto_ret]; dsimp only [Exit.inBlock, Exit.then])
    go_ret
    exact ⟨rfl, hB⟩
set_option maxHeartbeats 4000000 in
set_option maxRecDepth 100000 in
theorem index_fours (r : Int) (b1 b2 b3 b4 : UInt8) (h0 : 128 ≤ r) (h1 : r ≠ 65533) (hv : Lib.validRune r = true) (he : Utf8.encode r = ⟨#[b1, b2, b3, b4]⟩) (hb : 128 ≤ b4.toNat) (w : World) : Calls Try.prog 40 #[.string four, .int .i32 r] w fun e w' => e = .returned (.int .i64 (-1)) ∧ Below w.heap.size w w' := by
  have hnot : ¬ r < 128 := by omega
  go_enter Try.func40, Try.ntmps40
  go_wp2_with fail
  refine (Try.utf8_ValidRune r _).mono ?_
  rintro e w1 ⟨rfl, rfl⟩
  rw [hv]
  go_wp2_with fail
  go_step3
  go_wp2_with fail
  go_loopg [9] 1 (fun _gg s9 wr => s9 = .int .i64 3 ∧ Aside0 (wr = w1))
  case atStart => exact ⟨rfl, ⟨rfl⟩⟩
  case round =>
    obtain ⟨rfl, HW⟩ := hrel
    have hbz : (128 : Int) ≤ (b4.toNat : Int) := by omega
    have hf4 : four.size = 4 := rfl
    have hq1 : (four[3]'(by decide)).toNat = 92 := rfl
    have hq2 : ((⟨#[b1, b2, b3, b4]⟩ : ByteArray)[3]'(show 3 < 4 by omega)).toNat = b4.toNat := rfl
    have hq3 : ¬ (92 : Int) = (b4.toNat : Int) := by omega
    have hw2 : IntKind.i64.wrap 4 = 4 := by decide
    go_wp2_with fail
    go_step3
    go_wp2_with fail
    go_quiet (fail)
    go_wp2_with fail
    go_still_tail 7, (by kernel_rfl)
    change wpList _ _ _ _ _ (World.drew _)
    have hB : Below w1.heap.size w1 (World.drew (wr.drewN nq)) := by rw [HW.out]; exact below_drew1 (pw_below_drewN (Below.refl _ _) _)
    generalize (wr.drewN nq).drew = w5 at hB ⊢
    go_wp2_with fail
    refine (byte_none _ b4 hb (four_part 4 4) _).mono ?_
    rintro e w6 ⟨rfl, rfl⟩
    go_wp2
    (rw [Exit.noGoto_ret]; dsimp only [Exit.inBlock, Exit.then]; rw [Exit.noGoto_ret]; dsimp only [Exit.inBlock, Exit.then])
    go_ret
    exact ⟨rfl, hB⟩
set_option maxHeartbeats 4000000 in
set_option maxRecDepth 100000 in
theorem index_wrong (r : Int) (h0 : 128 ≤ r) (h1 : r ≠ 65533) (hv : Lib.validRune r = false) (w : World) : Calls Try.prog 40 #[.string four, .int .i32 r] w fun e w' => e = .returned (.int .i64 (-1)) ∧ Below w.heap.size w w' := by
  have hnot : ¬ r < 128 := by omega
  go_enter Try.func40, Try.ntmps40
  go_wp2_with fail
  refine (Try.utf8_ValidRune r _).mono ?_
  rintro e w1 ⟨rfl, rfl⟩
  rw [hv]
  go_wp2
  go_ret
  exact ⟨rfl, Below.refl _ _⟩
/-- Is a character one of the four signs? -/
def sign (r : Int) : Bool := decide (r = 42) || decide (r = 63) || decide (r = 91) || decide (r = 92)
theorem sign_small : ∀ n : Nat, n < 128 → decide (0 ≤ Lib.indexByte [42, 63, 91, 92] n.toUInt8) = sign (n : Int) := by decide
theorem sign_high (r : Int) (h : 128 ≤ r) : sign r = false := by
  unfold sign
  simp
  omega
theorem index_rune (r : Int) (h0 : 0 ≤ r) (w : World) : Calls Try.prog 40 #[.string four, .int .i32 r] w fun e w' => (∃ i : Int, e = .returned (.int .i64 i) ∧ decide (0 ≤ i) = sign r) ∧ Below w.heap.size w w' := by
  rcases Int.lt_or_le r 128 with h1 | h1
  · refine (Try.strings_IndexRune_ascii four r w h0 h1).mono ?_
    rintro e w' ⟨rfl, rfl⟩
    refine ⟨⟨_, rfl, ?_⟩, Below.refl _ _⟩
    have := sign_small r.toNat (by omega)
    rw [Int.toNat_of_nonneg h0] at this
    exact this
  · have hs := sign_high r h1
    have key : Calls Try.prog 40 #[.string four, .int .i32 r] w fun e w' => e = .returned (.int .i64 (-1)) ∧ Below w.heap.size w w' := by
      by_cases h2 : r = 65533
      · subst h2
        exact index_error w
      · cases hv : Lib.validRune r with
        | false => exact index_wrong r h1 h2 hv w
        | true =>
          have hv2 : Utf8.valid r = true := by
            unfold Lib.validRune at hv
            simp at hv
            unfold Utf8.valid
            simp
            omega
          have hc : ¬ r.toNat < 128 := by omega
          have hlast : 128 ≤ (UInt8.ofNat (128 + r.toNat % 64)).toNat := by simp; omega
          by_cases h3 : r.toNat < 2048
          · exact index_two r _ _ h1 h2 hv (by unfold Utf8.encode; simp only [hv2, if_true, hc, if_false, h3]; rfl) hlast w
          · by_cases h4 : r.toNat < 65536
            · exact index_three r _ _ _ h1 h2 hv (by unfold Utf8.encode; simp only [hv2, if_true, hc, if_false, h3, h4]; rfl) hlast w
            · exact index_fours r _ _ _ _ h1 h2 hv (by unfold Utf8.encode; simp only [hv2, if_true, hc, if_false, h3, h4]; rfl) hlast w
    refine key.mono ?_
    rintro e w' ⟨rfl, hb⟩
    exact ⟨⟨-1, rfl, by rw [hs]; rfl⟩, hb⟩
end Go.Proofs.Ytmejbponpkkobaa.P
