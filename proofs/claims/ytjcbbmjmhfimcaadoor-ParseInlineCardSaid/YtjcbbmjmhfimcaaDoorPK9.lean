/- All the requests that a parser has, up to an error. Conditions: that the package's variables lie as the program lays them. -/
import Derived.Test.YtjcbbmjmhfimcaaDoorPK8
namespace Go.Proofs.YtjcbbmjmhfimcaaDoor.P
open Go.RowKit Go.Lib Go.Proofs.YtjcbbmjmhfimcaaDoorW.PrintWords Go.Proofs.YtjcbbmjmhfimcaaDoorW.PrintLast Go.Proofs.YtjcbbmjmhfimcaaDoorW.PrintMore
attribute [local go_sem] Oper.semAt_some

theorem bulksB_len (s : ByteArray) : (bulksB s).1.length ≤ 64 := by
  have h := headB_hi s (-9223372036854775808) 64
  unfold bulksB
  split
  · exact Nat.zero_le _
  · rename_i h1
    have h1 : (headB s (-9223372036854775808) 64).2.1 = 0 := by simpa using h1
    have := h h1
    split
    · exact Nat.zero_le _
    · rw [List.length_map, itemsB_len]
      omega
theorem inlineB_len (s : ByteArray) : (inlineB s).1.length ≤ 64 := by
  unfold inlineB
  split
  · exact Nat.zero_le _
  · split
    · exact Nat.zero_le _
    · rename_i h
      simp only [not_or, Nat.not_lt] at h
      exact h.2
theorem splitB_cases (s : ByteArray) : splitB s = ([], 31, s) ∨ ∃ q, (q = bulksB s ∨ q = inlineB s) ∧ splitB s = if q.2.1 ≠ 0 then ([], q.2.1, s) else q := by
  unfold splitB
  by_cases h0 : s.size = 0
  · exact .inl (by rw [if_pos h0])
  · right
    by_cases h : bt s 0 = 42
    · exact ⟨_, .inl rfl, by rw [if_neg h0, if_pos h]⟩
    · exact ⟨_, .inr rfl, by rw [if_neg h0, if_neg h]⟩
theorem bulksB_size (s : ByteArray) : (bulksB s).2.2.size ≤ s.size := by
  have h1 := headB_size s (-9223372036854775808) 64
  unfold bulksB
  split
  · exact h1
  · split
    · exact Nat.le_refl _
    · exact Nat.le_trans (restB_size _ _) h1
theorem inlineB_size (s : ByteArray) : (inlineB s).2.2.size ≤ s.size := by
  unfold inlineB
  split
  · exact Nat.le_refl _
  · split
    · exact Nat.le_refl _
    · simp only [ByteArray.size_extract]; omega
theorem splitB_len (s : ByteArray) : (splitB s).1.length ≤ 64 := by
  rcases splitB_cases s with h | ⟨q, hq, h⟩
  · rw [h]; exact Nat.zero_le _
  · rw [h]
    split
    · exact Nat.zero_le _
    · rcases hq with rfl | rfl
      · exact bulksB_len s
      · exact inlineB_len s
theorem splitB_size (s : ByteArray) : (splitB s).2.2.size ≤ s.size := by
  rcases splitB_cases s with h | ⟨q, hq, h⟩
  · rw [h]; exact Nat.le_refl _
  · rw [h]
    split
    · exact Nat.le_refl _
    · rcases hq with rfl | rfl
      · exact bulksB_size s
      · exact inlineB_size s
theorem nextB_len (s : ByteArray) (b : Bool) : (nextB s b).1.length ≤ 64 := by
  unfold nextB
  split
  · exact Nat.zero_le _
  · exact splitB_len s
theorem nextB_size (s : ByteArray) (b : Bool) : (nextB s b).2.2.1.size ≤ s.size := by
  unfold nextB
  split
  · exact Nat.le_refl _
  · exact splitB_size s
def nextW : ByteArray := ⟨#[110, 101, 120, 116]⟩
/-- All requests up to an error: the words, what is wrong, what is kept, whether it is wrong then. -/
def allB : Nat → ByteArray → Bool → List ByteArray → List ByteArray × Int × ByteArray × Bool
  | 0, s, b, out => (out, 0, s, b)
  | f + 1, s, b, out => if (nextB s b).2.1 ≠ 0 then (out, (nextB s b).2.1, (nextB s b).2.2.1, (nextB s b).2.2.2) else allB f (nextB s b).2.2.1 (nextB s b).2.2.2 (out ++ [nextW] ++ (nextB s b).1)
theorem grown_b {w A B : World} {row : Option Nat} (h : w.grownBy A row) (hb : Below w.heap.size A B) : w.grownBy B row :=
  ⟨hb.os.trans h.os, hb.tape.trans h.tape, hb.output.trans h.output, Nat.le_trans h.size hb.size, fun k hk hne => (hb.block k hk).trans (h.block k hk hne)⟩
theorem append_b1 {ops : Array Oper} {rest : List Oper} {o : Oper} {a : Act} {Q : Exit → Act → World → Prop} (W : World) (base : Nat) (hgd : o.guard = none) (x y : Operand) (ho : o.op = .call { callee := .builtin .append, args := #[x, y], argTypes := #[22, 22] })
    (v : Value) (out : List ByteArray) (p : ByteArray) (hs : a.eval x = v) (hx : a.eval y = .slice (some ⟨W.heap.size, 0, none⟩) 1 1)
    (HO : Kd.R Kd.string 9 W base (fun k => base ≤ k) v out) (hb : base ≤ W.heap.size) (hl : out.length ≤ 100000000)
    (h : ∀ v1 w1, Kd.R Kd.string 9 w1 base (fun k => base ≤ k) v1 (out ++ [p]) → Below base W w1 → W.grownBy w1 v.ownBlock → wpList Tryd.prog ops Q rest (a.put o.dst v1) w1) :
    wpList Tryd.prog ops Q (o :: rest) a (W.alloc (.cells #[.string p] 9)) :=
  Kd.R_append Kd.string (w0 := W) (W := W) base hgd x y 22 9 (.string ⟨#[]⟩) 16 ho Tryd.underlying22 info9s rfl (Nat.lt_succ_self 0) (by omega) v out p [.string p] (fun k => base ≤ k) (fun _ => False) hs hx rfl (fun _ hk => hk.elim) (fun k hk => by omega) HO (Below.refl _ _) hb (by omega)
    (fun v1 w1 h1 h2 h3 _ => h v1 w1 h1 h2 h3)
theorem append_br {ops : Array Oper} {rest : List Oper} {o : Oper} {a : Act} {Q : Exit → Act → World → Prop} (W : World) (base : Nat) (hgd : o.guard = none) (x y : Operand) (ho : o.op = .call { callee := .builtin .append, args := #[x, y], argTypes := #[22, 22] })
    (v : Value) (xs ys : List ByteArray) (A : Option Addr) (m c : Nat) (hs : a.eval x = v) (hx : a.eval y = .slice A m c)
    (HO : Kd.R Kd.string 9 W base (fun k => base ≤ k) v xs) (HR : Kd.C Kd.string W A m ys) (hb : base ≤ W.heap.size) (hl : xs.length + m ≤ 100000000)
    (h : ∀ v1 w1, Kd.R Kd.string 9 w1 base (fun k => base ≤ k) v1 (xs ++ ys) → Below base W w1 → wpList Tryd.prog ops Q rest (a.put o.dst v1) w1) :
    wpList Tryd.prog ops Q (o :: rest) a W :=
  Kd.R_append_row Value.string ByteArray.empty (w0 := W) base hgd x y 22 9 (.string ⟨#[]⟩) 16 ho Tryd.underlying22 info9s rfl (by decide) v xs ys A m c (fun k => base ≤ k) hs hx (fun k hk => by omega) HO HR (Below.refl _ _) hb (by omega) (fun v1 w1 h1 h2 _ _ => h v1 w1 h1 h2)
set_option maxHeartbeats 8000000 in
set_option maxRecDepth 100000 in
theorem all_calls (p : Nat) (s0 : ByteArray) (b0 : Bool) (hs : s0.size ≤ 100000) (most : Nat) (hm : most ≤ 4000) (w : World) (hG : G w) (h2 : 2 < p) (hP : Par w p s0 b0) :
    Calls Tryd.prog 14 #[.pointer (some ⟨p, 0, none⟩), .int .i64 most] w fun e w' => ∃ v, e = .returned (.tuple #[v, .int .i64 (allB most s0 b0 []).2.1]) ∧ Kd.R Kd.string 9 w' w.heap.size (fun _ => True) v (allB most s0 b0 []).1 ∧ Par w' p (allB most s0 b0 []).2.2.1 (allB most s0 b0 []).2.2.2 ∧ w.grownBy w' (some p) := by
  have hlt := Blk.lt hP
  have HG := Aside0.mk hG
  have HP := Aside0.mk hP
  clear hG hP
  go_enter Tryd.func14, Tryd.ntmps14
  go_wp2
  go_loopg [6, 7] most (fun gg v6 v7 wr => ∃ (j : Nat) (s : ByteArray) (b : Bool) (out : List ByteArray), v7 = .int .i64 j ∧ j ≤ most ∧ most - j ≤ gg ∧ Aside0 (allB (most - j) s b out = allB most s0 b0 [] ∧ s.size ≤ 100000 ∧ out.length ≤ 65 * j) ∧ Aside0 (Kd.R Kd.string 9 wr w.heap.size (fun k => w.heap.size ≤ k) v6 out) ∧ Aside0 (Par wr p s b) ∧ Aside0 (w.grownBy wr (some p)))
  case atStart => exact ⟨0, s0, b0, [], rfl, by omega, by omega, ⟨rfl, hs, Nat.zero_le _⟩, ⟨Kd.R_nil _ _ _ _ _⟩, HP, ⟨grown_refl _ _⟩⟩
  case round =>
    obtain ⟨j, s, b, out, rfl, hj, hg, HE, HR, HPr, HGr⟩ := hrel
    have hS := Kd.R_slice HR.out
    obtain ⟨lo, hlo⟩ : ∃ m, m = out.length := ⟨_, rfl⟩
    rw [← hlo] at hS
    obtain ⟨Ao, co, rfl⟩ := hS
    have HLO := Aside0.mk hlo
    clear hlo
    by_cases hjm : j < most
    · have hjz : (j : Int) < (most : Int) := by omega
      obtain ⟨he, hsz, hol⟩ := HE.out
      have hcall := next_calls p s b hsz wr (HG.out.grown HGr.out (fun r e => by cases e; exact h2)) HPr.out
      have hnl := nextB_len s b
      have hns := nextB_size s b
      rw [show most - j = (most - (j + 1)) + 1 by omega, allB] at he
      generalize nextB s b = q at hcall hnl hns he
      obtain ⟨l, e, s', b'⟩ := q
      simp only at hcall hnl hns he
      have HEQ := Aside0.mk he
      have HOL := Aside0.mk hol
      clear he hol
      go_wp2_with fail
      refine hcall.mono ?_
      rintro ev w1 ⟨v, rfl, hv, hp1, hg1⟩
      obtain ⟨A1, c1, rfl, l1, d1⟩ := Kd.R_reads hv
      have HR1 := Aside0.mk (Kd.R_grown HR.out hg1 (fun k hk e => by cases e; omega))
      have HG1 := Aside0.mk (grown_trans HGr.out hg1)
      have HP1 := Aside0.mk hp1
      have HV1 := Aside0.mk (Kd.R_mono (ok' := fun k => wr.heap.size ≤ k) (Kd.R_bound hv) (fun k hk => hk.2.1))
      have hown := Kd.R_lt HR.out
      have HOW := Aside0.mk hown
      clear hv hg1 hp1 d1 l1 hcall HR HGr HPr hown
      by_cases hee : e = 0
      · subst hee
        have H2 := HEQ.out
        rw [if_neg (by simp)] at H2
        have HE2 := Aside0.mk H2
        clear H2 HEQ
        obtain ⟨ml, hml⟩ : ∃ m, m = l.length := ⟨_, rfl⟩
        have HV2 := Aside0.mk HV1.out
        rw [← hml] at hnl HV2 ⊢
        have HML := Aside0.mk hml
        clear hml
        go_wp2_with (first | ((with_reducible refine gate_builtin (b := .append) (xs := #[.tmp 24, .tmp 25]) rfl ?_); at_builtin; refine append_b1 w1 w.heap.size rfl (.tmp 24) (.tmp 25) rfl _ out nextW rfl rfl HR1.out HG1.out.size (by have := HOL.out; omega) ?_; intro v5 w5 hR5 hB5 hO5; have HR5 := Aside0.mk hR5; have HB5 := Aside0.mk hB5; obtain ⟨e5, l5, d5⟩ := Kd.R_reads' (Kd.R_grown HV2.out hO5 (fun k hk e => by have := HOW.out k e.symm; omega)); rw [← e5] at d5; have D5 := Aside0.mk d5; clear hR5 hB5 hO5 d5 e5) | ((with_reducible refine gate_builtin (b := .append) (xs := #[.tmp 27, .tmp 28]) rfl ?_); at_builtin; refine append_br w5 w.heap.size rfl (.tmp 27) (.tmp 28) rfl _ (out ++ [nextW]) l A1 ml c1 rfl rfl HR5.out D5.out (Nat.le_trans HG1.out.size HB5.out.size) (by have := HOL.out; rw [List.length_append, List.length_singleton]; omega) ?_; intro v6 w6 hR6 hB6; have HR6 := Aside0.mk hR6; have HB6 := Aside0.mk hB6; clear hR6 hB6))
        have hB := HB5.out.trans HB6.out
        go_roundg (most - (j + 1))
        case measure => omega
        case rel =>
          refine ⟨j + 1, s', b', out ++ [nextW] ++ l, by go_num, by omega, by omega, ⟨HE2.out, by omega, ?_⟩, ⟨HR6.out⟩, ⟨?_⟩, ⟨grown_b HG1.out hB⟩⟩
          · have := HOL.out
            have := HML.out
            simp only [List.length_append, List.length_singleton]
            omega
          · exact (hB.block p hlt).trans HP1.out
      · have heb : (e != 0) = true := by simpa using hee
        have H2 := HEQ.out
        rw [if_pos hee] at H2
        have HE2 := Aside0.mk H2
        clear H2 HEQ
        go_wp2
        go_ret2
        rw [← HE2.out]
        exact ⟨_, rfl, Kd.R_mono HR1.out (fun _ _ => trivial), HP1.out, HG1.out⟩
    · obtain rfl : j = most := by omega
      have hjz : ¬ (j : Int) < (j : Int) := by omega
      obtain ⟨he, hsz, hol⟩ := HE.out
      rw [Nat.sub_self, allB] at he
      have HEQ := Aside0.mk he
      clear he
      go_wp2
      go_ret2
      rw [← HEQ.out]
      exact ⟨_, rfl, Kd.R_mono HR.out (fun _ _ => trivial), HPr.out, HGr.out⟩
end Go.Proofs.YtjcbbmjmhfimcaaDoor.P
