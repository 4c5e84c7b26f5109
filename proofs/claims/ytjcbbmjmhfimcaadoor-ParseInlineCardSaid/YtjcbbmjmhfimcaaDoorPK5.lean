/- The first request of bytes: its arguments, what is left, what is wrong. Conditions: that the text has at most a hundred thousand bytes; that the package's variables lie as the program lays them. -/
import Derived.Test.YtjcbbmjmhfimcaaDoorPK4
namespace Go.Proofs.YtjcbbmjmhfimcaaDoor.P
open Go.RowKit Go.Lib Go.Proofs.YtjcbbmjmhfimcaaDoorW.PrintWords Go.Proofs.YtjcbbmjmhfimcaaDoorW.PrintLast Go.Proofs.YtjcbbmjmhfimcaaDoorW.PrintMore
attribute [local go_sem] Oper.semAt_some

/-- The first request of a text: its arguments, what is wrong, what is left. -/
def splitB (s : ByteArray) : List ByteArray × Int × ByteArray :=
  if s.size = 0 then ([], 31, s)
  else if (if bt s 0 = 42 then bulksB s else inlineB s).2.1 ≠ 0 then ([], (if bt s 0 = 42 then bulksB s else inlineB s).2.1, s)
  else (if bt s 0 = 42 then bulksB s else inlineB s)
theorem ne_list {s : ByteArray} (h0 : s.size ≠ 0) : s.toList.isEmpty = false ∧ s.toList ≠ [] := by
  have hne : s.toList.isEmpty = false := by
    rw [ByteArray.toList_eq]
    cases hd : s.data.toList with
    | nil => exact absurd (by rw [size_eq, hd]; rfl) h0
    | cons x t => rfl
  refine ⟨hne, fun e => ?_⟩
  rw [e] at hne
  cases hne
theorem of_bulks (s : ByteArray) (h0 : 0 < s.size) (h : bt s 0 = 42) (w : World) :
    Calls Tryd.prog 19 #[.string s] w fun e w' => e = .returned (.iface 55 (.agg #[.int .u8 42])) ∧ w' = w := by
  have hbt : ∀ h, ((s[0]'h).toNat : Int) = bt s 0 := fun h => bt_at s 0 h
  have hb : (bt s 0 == 42) = true := by simp [h]
  have h0z : (0 : Int) < (s.size : Int) := by omega
  go_enter Tryd.func19, Tryd.ntmps19
  go_wp2
  go_ret
  exact ⟨rfl, rfl⟩
theorem of_inline (s : ByteArray) (h0 : 0 < s.size) (h : bt s 0 ≠ 42) (w : World) :
    Calls Tryd.prog 19 #[.string s] w fun e w' => e = .returned (.iface 67 (.agg #[])) ∧ w' = w := by
  have hbt : ∀ h, ((s[0]'h).toNat : Int) = bt s 0 := fun h => bt_at s 0 h
  have hb : (bt s 0 == 42) = false := by simp [h]
  have h0z : (0 : Int) < (s.size : Int) := by omega
  go_enter Tryd.func19, Tryd.ntmps19
  go_wp2
  go_ret
  exact ⟨rfl, rfl⟩
theorem ta_bulks (w : World) : (Instr.typeAssert (.iface 55 (.agg #[.int .u8 42])) 52 55 true).run Tryd.prog w = .ok (.tuple #[.agg #[.int .u8 42], .bool true]) w := by kernel_rfl
theorem ta_inline (w : World) : (Instr.typeAssert (.iface 67 (.agg #[])) 52 55 true).run Tryd.prog w = .ok (.tuple #[.agg #[.int .u8 0], .bool false]) w := by kernel_rfl
theorem mt_bulks (w : World) : (method 282 55 (.agg #[.int .u8 42]) "palio/parse.request").run Tryd.prog w = .ok (70, .agg #[.int .u8 42]) w := by kernel_rfl
theorem mt_inline (w : World) : (method 282 67 (.agg #[]) "palio/parse.request").run Tryd.prog w = .ok (86, .agg #[]) w := by kernel_rfl
def SplitEnd (s : ByteArray) (w : World) (e : Ending) (w' : World) : Prop := ∃ v, e = .returned (.tuple #[v, .string (splitB s).2.2, .int .i64 (splitB s).2.1]) ∧ Kd.R Kd.string 9 w' w.heap.size (fun _ => True) v (splitB s).1 ∧ Below w.heap.size w w'
set_option maxHeartbeats 4000000 in
set_option maxRecDepth 100000 in
theorem split_bulks (s : ByteArray) (hs : s.size ≤ 100000) (h0 : 0 < s.size) (h42 : bt s 0 = 42) (w : World) (hG : G w) : Calls Tryd.prog 9 #[.string s] w (SplitEnd s w) := by
  have hbt : ∀ h, ((s[0]'h).toNat : Int) = bt s 0 := fun h => bt_at s 0 h
  obtain ⟨hne, hne2⟩ := ne_list (s := s) (by omega)
  have h0z : (0 : Int) < (s.size : Int) := by omega
  have hS : splitB s = if (bulksB s).2.1 ≠ 0 then ([], (bulksB s).2.1, s) else bulksB s := by
    unfold splitB
    rw [if_neg (by omega), if_pos h42]
  have HS := Aside0.mk hS
  have HG := Aside0.mk hG
  clear hS hG
  have hta := ta_bulks
  have hmt := mt_bulks
  go_enter Tryd.func9, Tryd.ntmps9
  go_wp2_with fail
  refine (of_bulks s h0 h42 _).mono ?_
  rintro e w1 ⟨rfl, rfl⟩
  go_wp2_with fail
  go_quiet (fail)
  have hR := ((Blk.new w 50 #[.string s]).alloc (.cells #[.int .u8 42] 55)).below (pw_below_drewN (Below.refl _ _) nq)
  have hB := pw_below_drewN (below_alloc (below_alloc (Below.refl _ w) (.cells #[.string s] 50)) (.cells #[.int .u8 42] 55)) nq
  generalize World.drewN _ nq = W2 at hR hB ⊢
  have hlt := hR.lt
  have h2 := HG.out.lt
  have hcall := bulks_calls w.heap.size 42 s hs W2 (HG.out.below hB) h2 hR (idx_pos h0 (by omega))
  generalize bulksB s = p at HS hcall
  obtain ⟨out, e, rest⟩ := p
  simp only at HS hcall
  have HB := Aside0.mk hB
  clear hR hB
  go_wp2_with fail
  refine hcall.mono ?_
  rintro ev w3 ⟨v, rfl, hv, hrd, hg⟩
  have HB3 := Aside0.mk (below_grown HB.out hg (Nat.le_refl _))
  have HV := Aside0.mk (Kd.R_lower hv HB.out.size)
  obtain ⟨m, hm⟩ : ∃ m, m = out.length := ⟨_, rfl⟩
  have hS := Kd.R_slice hv
  rw [← hm] at hS
  obtain ⟨A, c, rfl⟩ := hS
  clear hv hg hcall hm
  by_cases he : e = 0
  · subst he
    have hrd := hrd rfl
    have hc3 : w3.cell? ⟨w.heap.size, 0, none⟩ = some (.string rest) := hrd.cell 0
    rw [erV_zero]
    clear hrd
    go_wp2
    go_region
    go_wp2
    go_ret3
    have HS2 := HS.out
    rw [if_neg (by simp)] at HS2
    refine ⟨.slice A m c, ?_, ?_, HB3.out.drew⟩
    · rw [HS2]; rfl
    · rw [HS2]; exact Kd.R_drew HV.out
  · rw [erV_ne he]
    go_wp2_with fail
    refine (told_calls e w3 (HG.out.below HB3.out).et).mono ?_
    rintro ev w4 ⟨rfl, hb4⟩
    have HB4 := Aside0.mk (HB3.out.trans (hb4.mono HB3.out.size))
    clear hb4 hrd
    go_wp2
    go_ret3
    have HS2 := HS.out
    rw [if_pos he] at HS2
    refine ⟨.slice none 0 0, ?_, ?_, HB4.out⟩
    · rw [HS2]; rfl
    · rw [HS2]; exact Kd.R_nil _ _ _ _ _
set_option maxHeartbeats 4000000 in
set_option maxRecDepth 100000 in
theorem split_inline (s : ByteArray) (hs : s.size ≤ 100000) (h0 : 0 < s.size) (h42 : bt s 0 ≠ 42) (w : World) (hG : G w) : Calls Tryd.prog 9 #[.string s] w (SplitEnd s w) := by
  have hbt : ∀ h, ((s[0]'h).toNat : Int) = bt s 0 := fun h => bt_at s 0 h
  obtain ⟨hne, hne2⟩ := ne_list (s := s) (by omega)
  have h0z : (0 : Int) < (s.size : Int) := by omega
  have hS : splitB s = if (inlineB s).2.1 ≠ 0 then ([], (inlineB s).2.1, s) else inlineB s := by
    unfold splitB
    rw [if_neg (by omega), if_neg h42]
  have HS := Aside0.mk hS
  have HG := Aside0.mk hG
  clear hS hG
  have hta := ta_inline
  have hmt := mt_inline
  go_enter Tryd.func9, Tryd.ntmps9
  go_wp2_with fail
  refine (of_inline s h0 h42 _).mono ?_
  rintro e w1 ⟨rfl, rfl⟩
  go_wp2_with fail
  go_quiet (fail)
  have hR := ((Blk.new w 50 #[.string s]).alloc (.cells #[.int .u8 0] 55)).below (pw_below_drewN (Below.refl _ _) nq)
  have hB := pw_below_drewN (below_alloc (below_alloc (Below.refl _ w) (.cells #[.string s] 50)) (.cells #[.int .u8 0] 55)) nq
  generalize World.drewN _ nq = W2 at hR hB ⊢
  have hlt := hR.lt
  have h2 := HG.out.lt
  have hcall := inline_calls w.heap.size s hs W2 (HG.out.below hB) h2 hR
  generalize inlineB s = p at HS hcall
  obtain ⟨out, e, rest⟩ := p
  simp only at HS hcall
  have HB := Aside0.mk hB
  clear hR hB
  go_wp2_with fail
  refine hcall.mono ?_
  rintro ev w3 ⟨v, rfl, hv, hrd, hg⟩
  have HB3 := Aside0.mk (below_grown HB.out hg (Nat.le_refl _))
  have HV := Aside0.mk (Kd.R_lower hv HB.out.size)
  obtain ⟨m, hm⟩ : ∃ m, m = out.length := ⟨_, rfl⟩
  have hS := Kd.R_slice hv
  rw [← hm] at hS
  obtain ⟨A, c, rfl⟩ := hS
  clear hv hg hcall hm
  by_cases he : e = 0
  · subst he
    have hrd := hrd rfl
    have hc3 : w3.cell? ⟨w.heap.size, 0, none⟩ = some (.string rest) := hrd.cell 0
    rw [erV_zero]
    clear hrd
    go_wp2
    go_region
    go_wp2
    go_ret3
    have HS2 := HS.out
    rw [if_neg (by simp)] at HS2
    refine ⟨.slice A m c, ?_, ?_, HB3.out.drew⟩
    · rw [HS2]; rfl
    · rw [HS2]; exact Kd.R_drew HV.out
  · rw [erV_ne he]
    go_wp2_with fail
    refine (told_calls e w3 (HG.out.below HB3.out).et).mono ?_
    rintro ev w4 ⟨rfl, hb4⟩
    have HB4 := Aside0.mk (HB3.out.trans (hb4.mono HB3.out.size))
    clear hb4 hrd
    go_wp2
    go_ret3
    have HS2 := HS.out
    rw [if_pos he] at HS2
    refine ⟨.slice none 0 0, ?_, ?_, HB4.out⟩
    · rw [HS2]; rfl
    · rw [HS2]; exact Kd.R_nil _ _ _ _ _
theorem split_calls (s : ByteArray) (hs : s.size ≤ 100000) (w : World) (hG : G w) : Calls Tryd.prog 9 #[.string s] w (SplitEnd s w) := by
  by_cases h0 : s.size = 0
  · have hS : splitB s = ([], 31, s) := by unfold splitB; rw [if_pos h0]
    have HS := Aside0.mk hS
    clear hS
    obtain rfl : s = ⟨#[]⟩ := by
      obtain ⟨⟨l⟩⟩ := s
      cases l with
      | nil => rfl
      | cons x t => cases h0
    go_enter Tryd.func9, Tryd.ntmps9
    go_wp2
    go_ret3
    refine ⟨.slice none 0 0, ?_, ?_, Below.refl _ _⟩
    · rw [HS.out]; rfl
    · rw [HS.out]; exact Kd.R_nil _ _ _ _ _
  · by_cases h42 : bt s 0 = 42
    · exact split_bulks s hs (by omega) h42 w hG
    · exact split_inline s hs (by omega) h42 w hG
end Go.Proofs.YtjcbbmjmhfimcaaDoor.P
