/- How many characters a text has: by the range over it, and by the row of them. Conditions: that the text is at most a million bytes. -/
import Derived.Test.YtmejbponpkkobaaPH7
namespace Go.Proofs.Ytmejbponpkkobaa.P
open Go.RowKit Go.Proofs.YtmejbponpkkobaaW.PrintWords Go.Proofs.YtmejbponpkkobaaW.PrintLast Go.Proofs.YtmejbponpkkobaaW.PrintMore

def glob_Count.f (s : ByteArray) : Option Int := if s.size ≤ 1000000 then some (runes s).length else none
def palioref02_Count.f (s : ByteArray) : Option Int := if s.size ≤ 1000000 then some (runes s).length else none
set_option maxHeartbeats 4000000 in
theorem count_calls (s : ByteArray) (hs : s.size ≤ 1000000) (w : World) : Calls Try.prog 20 #[.string s] w fun e w' => e = .returned (.int .i64 ((runes s).length : Int)) ∧ Below w.heap.size w w' := by
  have hrl := runes_len s
  go_enter Try.func20, Try.ntmps20
  go_wp2
  go_loopg [2] (runes s).length (fun gg s2 wr => ∃ (j pos fuel : Nat), s2 = .int .i64 j ∧ (runes s).length - j ≤ gg ∧ Aside0 (At s w j pos fuel wr))
  case atStart => exact ⟨0, 0, s.size, rfl, by omega, ⟨⟨Nat.zero_le _, by simp [World.iter_heap], below_alloc (Below.refl _ _) _, rfl, by omega⟩⟩⟩
  case round =>
    obtain ⟨j, pos, fuel, rfl, hg, HA⟩ := hrel
    have hj := HA.out.hj
    by_cases hp : pos < s.size
    · have hnx : ∀ ty, (Instr.next (.pointer (some ⟨w.heap.size, 0, none⟩)) true ty).run Try.prog wr = _ := fun ty => Lib.run_next_any_at wr w.heap.size s pos ty HA.out.it hp
      obtain ⟨f, rfl, hd, hlt, hA⟩ := HA.out.step hp
      have HA1 := Aside0.mk hA
      clear hA hd
      go_wp2
      go_roundg ((runes s).length - (j + 1))
      case measure => omega
      case rel => exact ⟨j + 1, pos + (Utf8.decode s pos).2, f, by go_num, by omega, HA1⟩
    · have hnx : ∀ ty, (Instr.next (.pointer (some ⟨w.heap.size, 0, none⟩)) true ty).run Try.prog wr = _ := fun ty => Lib.run_next_end_at wr w.heap.size s pos ty HA.out.it hp
      have hO := HA.out.stop hp
      have : j = (runes s).length := by
        have := congrArg List.length hO
        rw [List.length_drop] at this
        simp at this
        omega
      subst this
      go_wp2
      go_ret
      exact ⟨rfl, HA.out.bel⟩
theorem glob_Count.calls (s : ByteArray) (r : Int) (w : World) (h : glob_Count.f s = some r) : Calls Try.prog 11 #[.string s] w fun e w' => e = .returned (.int .i64 r) ∧ Below w.heap.size w w' := by
  unfold glob_Count.f at h
  by_cases hs : s.size ≤ 1000000
  · rw [if_pos hs] at h
    obtain rfl := Option.some.inj h
    go_enter Try.func11, Try.ntmps11
    go_wp2_with fail
    refine (count_calls s hs _).mono ?_
    rintro e w1 ⟨rfl, hb⟩
    go_wp2
    go_ret
    exact ⟨rfl, hb⟩
  · rw [if_neg hs] at h
    cases h
theorem palioref02_Count.calls (s : ByteArray) (r : Int) (w : World) (h : palioref02_Count.f s = some r) : Calls Try.prog 17 #[.string s] w fun e w' => e = .returned (.int .i64 r) ∧ Below w.heap.size w w' := by
  unfold palioref02_Count.f at h
  by_cases hs : s.size ≤ 1000000
  · rw [if_pos hs] at h
    obtain rfl := Option.some.inj h
    obtain ⟨d, w2, hconv, hd, hsz, hb2, hC2⟩ := runes_conv s (by omega) w
    have HB := Aside0.mk hb2
    clear hC2 hb2
    go_enter Try.func17, Try.ntmps17
    go_wp2
    go_ret
    exact ⟨rfl, HB.out⟩
  · rw [if_neg hs] at h
    cases h
end Go.Proofs.Ytmejbponpkkobaa.P
