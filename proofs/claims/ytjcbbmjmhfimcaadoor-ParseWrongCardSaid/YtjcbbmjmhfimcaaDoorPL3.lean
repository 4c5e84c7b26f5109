/- The law ParseWrong: a call of it answers true. Conditions: that the package's variables lie as the program lays them. -/
import Derived.Test.YtjcbbmjmhfimcaaDoorPK8
import Derived.Laws.MakeOwn
namespace Go.Proofs.YtjcbbmjmhfimcaaDoor.P
open Go.RowKit Go.Lib Go.Proofs.YtjcbbmjmhfimcaaDoorW.PrintWords Go.Proofs.YtjcbbmjmhfimcaaDoorW.PrintLast Go.Proofs.YtjcbbmjmhfimcaaDoorW.PrintMore
attribute [local go_sem] Oper.semAt_some

def zeroObj (m : Nat) : Obj := .cells (madeCells #[.int .u8 0] m) 5
def zerosB (m : Nat) : ByteArray := strOfNums (List.replicate m 0)
theorem zerosB_size (m : Nat) : (zerosB m).size = m := by
  unfold zerosB strOfNums
  rw [size_eq]
  simp
theorem info5z : (Tryd.prog.info? 5).map (fun i => (i.zero, i.size, i.bytes)) = some (some (.int .u8 0), 1, 1) := by kernel_rfl
theorem make0 (m : Nat) (hm : m ≤ 20000) (W : World) : (Instr.makeSlice 40 (.int .i64 (m : Int)) (.int .i64 (m : Int))).run Tryd.prog W = .ok (.slice (some ⟨W.heap.size, 0, none⟩) m m) (W.alloc (zeroObj m)) := by
  obtain ⟨i0, hi, hz0, hz1, hz2⟩ := info_parts info5z
  have := run_make W 40 5 i0 (.int .u8 0) Tryd.underlying40 hi hz0 .i64 .i64 (m : Int) (m : Int) (by omega) (by omega) (by rw [hz2]; omega) (by omega)
  have e : (Value.int .u8 0).cells = #[Value.int .u8 0] := rfl
  simpa [hz1, e, zeroObj] using this
theorem made0 (m : Nat) (hm : m ≤ 20000) (W : World) : Kd.C (Kd.int .u8) (W.alloc (zeroObj m)) (some ⟨W.heap.size, 0, none⟩) m (List.replicate m 0) := by
  refine Kd.C_of_reads (d := (0 : Int)) ⟨by simp, by omega, fun _ => ⟨_, rfl, fun j hj => ?_⟩⟩
  have h1 : (W.alloc (zeroObj m)).heap[W.heap.size]? = some (zeroObj m) := World.alloc_heap_new W _
  have h2 : (W.alloc (zeroObj m)).cell? ⟨W.heap.size, j, none⟩ = (madeCells #[.int .u8 0] m)[j]? := by
    simp only [World.cell?, h1]
    rfl
  have h3 : (⟨W.heap.size, 0, none⟩ : Addr).add j = ⟨W.heap.size, j, none⟩ := by unfold Addr.add; split <;> simp_all
  rw [h3, h2, Array.getElem?_eq_getElem (by rw [size_madeCells]; exact hj)]
  simp [madeCells, List.getD_eq_getElem?_getD, hj]
  rw [Nat.mod_one]
  rfl
theorem conv0 (m : Nat) (hm : m ≤ 20000) (W : World) : (convert 40 9 (.slice (some ⟨W.heap.size, 0, none⟩) m m)).run Tryd.prog (W.alloc (zeroObj m)) = .ok (.string (zerosB m)) (W.alloc (zeroObj m)) :=
  Kd.C_string Tryd.underlying40 Tryd.underlying5 Tryd.underlying9 (made0 m hm W)
theorem feed_sh3 : feedB ⟨#[]⟩ false sh3 = (0, sh3) := by decide +kernel
theorem next_sh3 : (nextB sh3 false).2.1 = 40 ∧ (nextB sh3 false).2.2.2 = true ∧ (nextB sh3 false).2.2.1 = sh3 := by decide +kernel
theorem cut1000 (s : ByteArray) : (s.extract 0 (min (s.size : Int) 1000).toNat).size ≤ 1000 := by rw [ByteArray.size_extract]; omega
set_option maxHeartbeats 16000000 in
set_option maxRecDepth 100000 in
theorem wrong_calls (s : ByteArray) (hs : s.size ≤ 140737488351232) (n : Int) (w : World) (hG : G w) : Calls Tryd.prog 5 #[.string s, .int .i64 n] w fun e w' => e = .returned (.bool true) ∧ Below w.heap.size w w' := by
  have HG := Aside0.mk hG
  clear hG
  by_cases hn : 0 ≤ n ∧ n ≤ 20000
  · obtain ⟨m, rfl⟩ : ∃ m : Nat, n = (m : Int) := ⟨n.toNat, by omega⟩
    have hm : m ≤ 20000 := by omega
    have hmk := make0 m hm
    have hcv := conv0 m hm
    have hmz : (m : Int) ≤ 20000 := by omega
    have hm0 : ¬ (m : Int) < 0 := by omega
    have hzs := zerosB_size m
    have hsz : (s.size : Int) ≤ 140737488351232 := by omega
    have ht := cut1000 s
    go_enter Tryd.func5, Tryd.ntmps5
    simp only [List.append_eq, List.cons_append, List.nil_append]
    go_wp2_with fail
    refine (shown_calls w HG.out).mono ?_
    rintro e w1 ⟨rfl, b1⟩
    have B1 := Aside0.mk b1
    clear b1
    go_wp2_with fail
    generalize s.extract 0 (min (s.size : Int) 1000).toNat = c at ht ⊢
    have hcz : (c.size : Int) ≤ 1000 := by omega
    refine (new_calls w1).mono ?_
    rintro e w2 ⟨rfl, p2, b2⟩
    have hP := B1.out.size
    have B2 := Aside0.mk (B1.out.trans (b2.mono B1.out.size))
    have P2 := Aside0.mk p2
    clear p2 b2
    generalize w1.heap.size = p at hP P2 ⊢
    go_wp2_with fail
    refine (feed_calls p ⟨#[]⟩ false sh3 (by decide) (by decide) w2 P2.out).mono ?_
    rintro e w3 ⟨rfl, p3, g3⟩
    rw [feed_sh3] at p3 ⊢
    have B3 := Aside0.mk (below_grown B2.out g3 hP)
    have P3 := Aside0.mk p3
    clear p3 g3
    go_wp2_with fail
    refine (next_calls p sh3 false (by decide) w3 (HG.out.below B3.out) P3.out).mono ?_
    rintro e w4 ⟨v4, rfl, r4, p4, g4⟩
    obtain ⟨n1, n2, n3⟩ := next_sh3
    rw [n2, n3] at p4
    rw [n1]
    obtain ⟨A4, c4, rfl⟩ := Kd.R_slice r4
    have B4 := Aside0.mk (below_grown B3.out g4 hP)
    have P4 := Aside0.mk p4
    clear p4 g4 r4 n1 n2 n3
    generalize (nextB sh3 false).1.length = l4
    go_wp2_with fail
    refine (feed_calls p sh3 true c (by decide) (by omega) w4 P4.out).mono ?_
    rintro e w5 ⟨rfl, p5, g5⟩
    rw [show feedB sh3 true c = (40, sh3) from rfl] at p5 ⊢
    have B5 := Aside0.mk (below_grown B4.out g5 hP)
    have P5 := Aside0.mk p5
    clear p5 g5
    go_wp2_with fail
    refine (next_calls p sh3 true (by decide) w5 (HG.out.below B5.out) P5.out).mono ?_
    rintro e w6 ⟨v6, rfl, r6, p6, g6⟩
    rw [show (nextB sh3 true).2.1 = 40 from rfl]
    obtain ⟨A6, c6, rfl⟩ := Kd.R_slice r6
    have B6 := Aside0.mk (below_grown B5.out g6 hP)
    clear p6 g6 r6
    generalize (nextB sh3 true).1.length = l6
    go_wp2_with fail
    refine (new_calls w6).mono ?_
    rintro e w7 ⟨rfl, p7, b7⟩
    have hQ := B6.out.size
    have B7 := Aside0.mk (B6.out.trans (b7.mono B6.out.size))
    have P7 := Aside0.mk p7
    clear p7 b7
    generalize w6.heap.size = q at hQ P7 ⊢
    go_wp2_with fail
    have P8 := Aside0.mk (Blk.alloc P7.out (zeroObj m))
    have B8 := Aside0.mk (below_alloc B7.out (zeroObj m))
    refine (feed_calls q ⟨#[]⟩ false (zerosB m) (by decide) (by omega) _ P8.out).mono ?_
    rintro e w9 ⟨rfl, p9, g9⟩
    have B9 := Aside0.mk (below_grown B8.out g9 hQ)
    by_cases h16 : m ≤ 16384
    · have hf : feedB ⟨#[]⟩ false (zerosB m) = (0, zerosB m) := by
        unfold feedB
        rw [if_neg (by simp), if_neg (by have : (⟨#[]⟩ : ByteArray).size = 0 := rfl; omega)]
        rw [show (⟨#[]⟩ : ByteArray) ++ zerosB m = zerosB m from ByteArray.empty_append]
      rw [hf] at p9 ⊢
      have P9 := Aside0.mk p9
      have hle : (m : Int) ≤ 16384 := by omega
      clear p9 g9 hf
      go_wp2_with fail
      refine (feed_calls q (zerosB m) false c (by omega) (by omega) w9 P9.out).mono ?_
      rintro e w10 ⟨rfl, p10, g10⟩
      have B10 := Aside0.mk (below_grown B9.out g10 hQ)
      have hfe : feedB (zerosB m) false c = if 16384 < m + c.size then (41, zerosB m) else (0, zerosB m ++ c) := by unfold feedB; rw [if_neg (by simp), hzs]
      clear p10 g10
      by_cases hmc : 16384 < m + c.size
      · rw [hfe, if_pos hmc]
        have hmz : ¬ (m : Int) + (c.size : Int) ≤ 16384 := by omega
        have HFE := Aside0.mk hfe
        clear hfe hzs
        go_wp2_with (first | (go_at_call 16; refine (next_nil _).mono ?_; rintro e wx ⟨rfl, rfl⟩) | (go_at_call 13; refine (feed_nil _ _).mono ?_; rintro e wx ⟨rfl, rfl⟩) | (go_at_call 15; refine (left_nil _).mono ?_; rintro e wx ⟨rfl, rfl⟩))
        go_ret
        exact ⟨by first | (simp; done) | (simp; omega), B10.out⟩
      · rw [hfe, if_neg hmc]
        have hmz : (m : Int) + (c.size : Int) ≤ 16384 := by omega
        have HFE := Aside0.mk hfe
        clear hfe hzs
        go_wp2_with (first | (go_at_call 16; refine (next_nil _).mono ?_; rintro e wx ⟨rfl, rfl⟩) | (go_at_call 13; refine (feed_nil _ _).mono ?_; rintro e wx ⟨rfl, rfl⟩) | (go_at_call 15; refine (left_nil _).mono ?_; rintro e wx ⟨rfl, rfl⟩))
        go_ret
        exact ⟨by first | (simp; done) | (simp; omega), B10.out⟩
    · have hf : feedB ⟨#[]⟩ false (zerosB m) = (41, ⟨#[]⟩) := by
        unfold feedB
        rw [if_neg (by simp), if_pos (by have : (⟨#[]⟩ : ByteArray).size = 0 := rfl; omega)]
      rw [hf] at p9 ⊢
      have P9 := Aside0.mk p9
      have hle : ¬ (m : Int) ≤ 16384 := by omega
      clear p9 g9 hf hzs
      go_wp2_with fail
      refine (feed_calls q ⟨#[]⟩ false c (by decide) (by omega) w9 P9.out).mono ?_
      rintro e w10 ⟨rfl, p10, g10⟩
      have hfe : feedB ⟨#[]⟩ false c = (0, c) := by
        unfold feedB
        rw [if_neg (by simp), if_neg (by have : (⟨#[]⟩ : ByteArray).size = 0 := rfl; omega)]
        rw [show (⟨#[]⟩ : ByteArray) ++ c = c from ByteArray.empty_append]
      rw [hfe] at p10 ⊢
      have B10 := Aside0.mk (below_grown B9.out g10 hQ)
      have P10 := Aside0.mk p10
      clear p10 g10 hfe
      go_wp2_with fail
      refine (next_nil _).mono ?_
      rintro e wx ⟨rfl, rfl⟩
      go_wp2_with fail
      refine (left_calls q c false _ P10.out).mono ?_
      rintro e wx ⟨rfl, rfl⟩
      go_wp2_with fail
      refine (feed_nil _ _).mono ?_
      rintro e wx ⟨rfl, rfl⟩
      go_wp2_with fail
      refine (left_nil _).mono ?_
      rintro e wx ⟨rfl, rfl⟩
      go_wp2
      go_ret
      exact ⟨by first | (simp; done) | (simp; omega), B10.out⟩
  · have hG2 := HG.out
    go_enter Tryd.func5, Tryd.ntmps5
    go_wp2_with fail
    refine (shown_calls w HG.out).mono ?_
    rintro e w1 ⟨rfl, b1⟩
    have B1 := Aside0.mk b1
    clear b1
    by_cases h0 : n < 0
    · go_wp2
      go_ret
      exact ⟨rfl, B1.out⟩
    · have h20 : 20000 < n := by omega
      go_wp2
      go_ret
      exact ⟨rfl, B1.out⟩
end Go.Proofs.YtjcbbmjmhfimcaaDoor.P
