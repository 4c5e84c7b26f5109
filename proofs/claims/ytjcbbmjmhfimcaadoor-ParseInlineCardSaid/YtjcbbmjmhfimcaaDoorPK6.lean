/- The parser that keeps what is left of bytes. Conditions: that what is kept, and what is fed, has at most a hundred thousand bytes; that the package's variables lie as the program lays them. -/
import Derived.Test.YtjcbbmjmhfimcaaDoorPK5
namespace Go.Proofs.YtjcbbmjmhfimcaaDoor.P
open Go.RowKit Go.Lib Go.Proofs.YtjcbbmjmhfimcaaDoorW.PrintWords Go.Proofs.YtjcbbmjmhfimcaaDoorW.PrintLast Go.Proofs.YtjcbbmjmhfimcaaDoorW.PrintMore
attribute [local go_sem] Oper.semAt_some

/-- A parser in memory: what it keeps, whether it is wrong. -/
def Par (w : World) (p : Nat) (s : ByteArray) (b : Bool) : Prop := Blk w p 63 #[.string s, .bool b]
theorem new_calls (w : World) : Calls Tryd.prog 12 #[] w fun e w' => e = .returned (.pointer (some ⟨w.heap.size, 0, none⟩)) ∧ Par w' w.heap.size ⟨#[]⟩ false ∧ Below w.heap.size w w' := by
  go_enter Tryd.func12, Tryd.ntmps12
  go_wp2
  go_ret
  exact ⟨rfl, Blk.new w 63 _, below_alloc (Below.refl _ _) _⟩
theorem left_calls (p : Nat) (s : ByteArray) (b : Bool) (w : World) (hP : Par w p s b) : Calls Tryd.prog 15 #[.pointer (some ⟨p, 0, none⟩)] w fun e w' => e = .returned (.int .i64 s.size) ∧ w' = w := by
  have hc : w.cell? ⟨p, 0, none⟩ = some (.string s) := Blk.cell hP 0
  clear hP
  go_enter Tryd.func15, Tryd.ntmps15
  go_wp2
  go_ret
  exact ⟨rfl, rfl⟩
theorem left_nil (w : World) : Calls Tryd.prog 15 #[.pointer none] w fun e w' => e = .returned (.int .i64 0) ∧ w' = w := by
  go_enter Tryd.func15, Tryd.ntmps15
  go_wp2
  go_ret
  exact ⟨rfl, rfl⟩
theorem feed_nil (t : ByteArray) (w : World) : Calls Tryd.prog 13 #[.pointer none, .string t] w fun e w' => e = .returned (.int .i64 1) ∧ w' = w := by
  go_enter Tryd.func13, Tryd.ntmps13
  go_wp2
  go_ret
  exact ⟨rfl, rfl⟩
theorem next_nil (w : World) : Calls Tryd.prog 16 #[.pointer none] w fun e w' => e = .returned (.tuple #[.slice none 0 0, .int .i64 1]) ∧ w' = w := by
  go_enter Tryd.func16, Tryd.ntmps16
  go_wp2
  go_ret2
  exact ⟨rfl, rfl⟩
/-- What a parser answers to bytes, and what it keeps then. -/
def feedB (s : ByteArray) (b : Bool) (t : ByteArray) : Int × ByteArray := if b = true then (40, s) else if 16384 < s.size + t.size then (41, s) else (0, s ++ t)
theorem feed_calls (p : Nat) (s : ByteArray) (b : Bool) (t : ByteArray) (hs : s.size ≤ 100000) (ht : t.size ≤ 100000) (w : World) (hP : Par w p s b) :
    Calls Tryd.prog 13 #[.pointer (some ⟨p, 0, none⟩), .string t] w fun e w' => e = .returned (.int .i64 (feedB s b t).1) ∧ Par w' p (feedB s b t).2 b ∧ w.grownBy w' (some p) := by
  have hc0 : w.cell? ⟨p, 0, none⟩ = some (.string s) := Blk.cell hP 0
  have hc1 : w.cell? ⟨p, 1, none⟩ = some (.bool b) := Blk.cell hP 1
  have hf0 := Blk.frozen hP 0
  have HP := Aside0.mk hP
  clear hP
  have hF : feedB s b t = if b = true then (40, s) else if 16384 < s.size + t.size then (41, s) else (0, s ++ t) := rfl
  have HF := Aside0.mk hF
  clear hF
  cases b with
  | true =>
    go_enter Tryd.func13, Tryd.ntmps13
    go_wp2
    go_ret
    exact ⟨rfl, HP.out, grown_refl _ _⟩
  | false =>
    by_cases hl : (16384 : Int) < (s.size : Int) + (t.size : Int)
    · go_enter Tryd.func13, Tryd.ntmps13
      go_wp2
      go_ret
      rw [HF.out, if_neg (by simp), if_pos (by omega)]
      exact ⟨rfl, HP.out, grown_refl _ _⟩
    · go_enter Tryd.func13, Tryd.ntmps13
      go_wp2
      go_ret
      rw [HF.out, if_neg (by simp), if_neg (by omega)]
      exact ⟨rfl, Blk.set HP.out 0 _, grown_set (grown_refl _ _) _ _⟩
/-- The next request of a parser: its arguments, what is wrong, what is kept, whether it is wrong then. -/
def nextB (s : ByteArray) (b : Bool) : List ByteArray × Int × ByteArray × Bool := if b = true then ([], 40, s, true) else ((splitB s).1, (splitB s).2.1, (splitB s).2.2, (splitB s).2.1 == 40)
theorem next_calls (p : Nat) (s : ByteArray) (b : Bool) (hs : s.size ≤ 100000) (w : World) (hG : G w) (hP : Par w p s b) :
    Calls Tryd.prog 16 #[.pointer (some ⟨p, 0, none⟩)] w fun e w' => ∃ v, e = .returned (.tuple #[v, .int .i64 (nextB s b).2.1]) ∧ Kd.R Kd.string 9 w' w.heap.size (fun _ => True) v (nextB s b).1 ∧ Par w' p (nextB s b).2.2.1 (nextB s b).2.2.2 ∧ w.grownBy w' (some p) := by
  have hc0 : w.cell? ⟨p, 0, none⟩ = some (.string s) := Blk.cell hP 0
  have hc1 : w.cell? ⟨p, 1, none⟩ = some (.bool b) := Blk.cell hP 1
  have HP := Aside0.mk hP
  have hlt := Blk.lt hP
  clear hP
  cases b with
  | true =>
    go_enter Tryd.func16, Tryd.ntmps16
    go_wp2
    go_ret2
    exact ⟨.slice none 0 0, rfl, Kd.R_nil _ _ _ _ _, HP.out, grown_refl _ _⟩
  | false =>
    have hN : nextB s false = ((splitB s).1, (splitB s).2.1, (splitB s).2.2, (splitB s).2.1 == 40) := rfl
    have hcall := split_calls s hs w hG
    unfold SplitEnd at hcall
    generalize splitB s = q at hN hcall
    obtain ⟨out, e, rest⟩ := q
    simp only at hN hcall
    have HN := Aside0.mk hN
    clear hN
    go_enter Tryd.func16, Tryd.ntmps16
    go_wp2_with fail
    refine hcall.mono ?_
    rintro ev w1 ⟨v, rfl, hv, hb⟩
    have hP1 := Blk.below HP.out hb
    have d0 : w1.cell? ⟨p, 0, none⟩ = some (.string s) := hP1.cell 0
    have d1 : w1.cell? ⟨p, 1, none⟩ = some (.bool false) := hP1.cell 1
    have f0 := hP1.frozen 0
    have f1 := hP1.frozen 1
    have HP1 := Aside0.mk hP1
    have HB := Aside0.mk hb
    have HV := Aside0.mk hv
    obtain ⟨m, hm⟩ : ∃ m, m = out.length := ⟨_, rfl⟩
    have hS := Kd.R_slice hv
    rw [← hm] at hS
    obtain ⟨A, c, rfl⟩ := hS
    clear hc0 hc1 hcall hP1 hb hv hm
    go_wp2
    go_ret2
    rw [HN.out]
    refine ⟨.slice A m c, rfl, ?_, (Blk.set (Blk.set HP1.out 0 _) 1 _), grown_set (grown_set (grown_below HB.out _) _ _) _ _⟩
    exact Kd.R_mono (Kd.R_far (Kd.R_far (Kd.R_bound HV.out) (fun k hk => by have := hk.2.1; simp; omega) _) (fun k hk => by have := hk.2.1; simp; omega) _) (fun _ _ => trivial)
end Go.Proofs.YtjcbbmjmhfimcaaDoor.P
