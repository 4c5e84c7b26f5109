/- What 'flags.Decide' answers, at any flags, whether a member is there, two numbers. Conditions: none. -/
import Derived.Test.YtndjbhibajjaoaaPH1
import Derived.Test.YtndjbhibajjaoaaPx2
namespace Go.Proofs.Ytndjbhibajjaoaa.P
open Go.RowKit Go.Proofs.YtndjbhibajjaoaaW.PrintWords Go.Proofs.YtndjbhibajjaoaaW.PrintLast Go.Proofs.YtndjbhibajjaoaaW.PrintMore

theorem bcell {W w1 : World} (hb : Below W.heap.size W w1) : (∀ b o, b < W.heap.size → w1.cell? ⟨b, o, none⟩ = W.cell? ⟨b, o, none⟩) ∧ (∀ b o, b < W.heap.size → w1.frozen? ⟨b, o, none⟩ = W.frozen? ⟨b, o, none⟩) :=
  ⟨fun b o h => hb.cell (p := ⟨b, o, none⟩) h, fun b o h => hb.frozen (p := ⟨b, o, none⟩) h⟩

/-- What is decided behind the test of the flags: n: the sum, where it is asked for; e: whether there is one. -/
def decided (gt lt is : Bool) (o n e : Int) : Int × Int × Int :=
  if e ≠ 0 then (0, 0, e) else if is = false then (n, 1, 0) else if n = o then (o, 0, 0) else if gt = true ∧ n < o then (o, 0, 0) else if lt = true ∧ n > o then (o, 0, 0) else (n, 2, 0)
def flags_Decide.f (a0_0 a0_1 a0_2 a0_3 a0_4 a0_5 a1 : Bool) (a2 a3 : Int) : Option (Int × Int × Int) :=
  (flags_Right.f a0_0 a0_1 a0_2 a0_3 a0_4 a0_5).bind fun ok =>
  if ok = false then some (0, 0, 110) else
  let o := if a1 = true then a2 else 0
  if (a1 = true ∧ a0_0 = true) ∨ (a1 = false ∧ a0_1 = true) then some (o, 0, 0) else
  if a0_5 = true then (ints_Add.f o a3).bind fun x => some (decided a0_2 a0_3 a1 o x.1 x.2) else some (decided a0_2 a0_3 a1 o a3 0)
set_option maxHeartbeats 4000000 in
set_option maxRecDepth 100000 in
theorem decide_no (a0_0 a0_1 a0_2 a0_3 a0_4 a0_5 a1 : Bool) (a2 a3 : Int) (w : World) (hr : flags_Right.f a0_0 a0_1 a0_2 a0_3 a0_4 a0_5 = some false) :
    Calls Try.prog 10 #[.agg #[.bool a0_0, .bool a0_1, .bool a0_2, .bool a0_3, .bool a0_4, .bool a0_5], .bool a1, .int .i64 a2, .int .i64 a3] w fun e w' => e = .returned (.tuple #[.int .i64 0, .int .i64 0, .int .i64 110]) ∧ Below w.heap.size w w' := by
  have HR := Lib.hid hr
  clear hr
  go_enter Try.func10, Try.ntmps10
  go_wp2_with fail
  refine (flags_Right.calls _ _ _ _ _ _ _ _ HR.out).mono ?_
  rintro e w1 ⟨rfl, hb⟩
  go_wp2
  go_ret3
  exact ⟨rfl, below_weaken (below_alloc (Below.refl _ _) _) (by simp) hb⟩
theorem ret3 {a b c a' b' c' : Int} (h : some (a, b, c) = some (a', b', c')) : Ending.returned (.tuple #[.int .i64 a, .int .i64 b, .int .i64 c]) = .returned (.tuple #[.int .i64 a', .int .i64 b', .int .i64 c']) := by
  simp only [Option.some.injEq, Prod.mk.injEq] at h
  obtain ⟨rfl, rfl, rfl⟩ := h
  rfl
set_option maxHeartbeats 4000000 in
set_option maxRecDepth 100000 in
theorem decide_new (a0_0 a0_1 a0_2 a0_3 a0_4 a0_5 : Bool) (a2 a3 : Int) (w : World) (hr : flags_Right.f a0_0 a0_1 a0_2 a0_3 a0_4 a0_5 = some true) (r1 r2 r3 : Int) (h : flags_Decide.f a0_0 a0_1 a0_2 a0_3 a0_4 a0_5 false a2 a3 = some (r1, r2, r3)) :
    Calls Try.prog 10 #[.agg #[.bool a0_0, .bool a0_1, .bool a0_2, .bool a0_3, .bool a0_4, .bool a0_5], .bool false, .int .i64 a2, .int .i64 a3] w fun e w' => e = .returned (.tuple #[.int .i64 r1, .int .i64 r2, .int .i64 r3]) ∧ Below w.heap.size w w' := by
  have HR := Lib.hid hr
  simp only [flags_Decide.f, hr, Option.bind_some] at h
  clear hr
  cases a0_1
  · cases a0_5
    · have H := Lib.hid h
      clear h
      go_enter Try.func10, Try.ntmps10
      go_wp2_with fail
      refine (flags_Right.calls _ _ _ _ _ _ _ _ HR.out).mono ?_
      rintro e w1 ⟨rfl, hb⟩
      obtain ⟨hc, hf⟩ := bcell hb
      go_wp2
      go_ret3
      exact ⟨ret3 (by rw [← H.out]; simp [decided]), below_weaken (below_alloc (Below.refl _ _) _) (by simp) hb⟩
    · simp only [Bool.true_eq_false, Bool.false_eq_true, if_false, if_true, false_and, and_false, or_false] at h
      obtain ⟨⟨n, e⟩, ha, h⟩ := Option.bind_eq_some_iff.mp h
      have HA := Lib.hid ha
      clear ha
      by_cases he : e = 0
      · subst he
        have H := Lib.hid h
        clear h
        go_enter Try.func10, Try.ntmps10
        go_wp2_with fail
        refine (flags_Right.calls _ _ _ _ _ _ _ _ HR.out).mono ?_
        rintro e w1 ⟨rfl, hb⟩
        obtain ⟨hc, hf⟩ := bcell hb
        go_wp2_with fail
        refine (ints_Add.calls _ _ _ _ _ HA.out).mono ?_
        rintro e w2 ⟨rfl, hd⟩
        obtain ⟨nd, rfl⟩ := hd.out
        go_wp2
        go_ret3
        exact ⟨ret3 (by rw [← H.out]; simp [decided]), by repeat (first | exact below_weaken (below_alloc (Below.refl _ _) _) (by simp) hb | apply below_alloc | apply pw_below_drewN | apply below_drew1)⟩
      · have he2 : (e != 0) = true := bne_iff_ne.mpr he
        have H := Lib.hid h
        clear h he
        go_enter Try.func10, Try.ntmps10
        go_wp2_with fail
        refine (flags_Right.calls _ _ _ _ _ _ _ _ HR.out).mono ?_
        rintro e w1 ⟨rfl, hb⟩
        obtain ⟨hc, hf⟩ := bcell hb
        go_wp2_with fail
        refine (ints_Add.calls _ _ _ _ _ HA.out).mono ?_
        rintro e w2 ⟨rfl, hd⟩
        obtain ⟨nd, rfl⟩ := hd.out
        go_wp2
        go_ret3
        exact ⟨ret3 (by rw [← H.out]; simp [decided, bne_iff_ne.mp he2]), by repeat (first | exact below_weaken (below_alloc (Below.refl _ _) _) (by simp) hb | apply below_alloc | apply pw_below_drewN | apply below_drew1)⟩
  · have H := Lib.hid h
    clear h
    go_enter Try.func10, Try.ntmps10
    go_wp2_with fail
    refine (flags_Right.calls _ _ _ _ _ _ _ _ HR.out).mono ?_
    rintro e w1 ⟨rfl, hb⟩
    obtain ⟨hc, hf⟩ := bcell hb
    go_wp2
    go_ret3
    exact ⟨ret3 (by rw [← H.out]; simp), below_weaken (below_alloc (Below.refl _ _) _) (by simp) hb⟩

theorem notB {a b : Int} (h : ¬ a = b) : (a == b) = false := beq_eq_false_iff_ne.mpr h
set_option maxHeartbeats 8000000 in
set_option maxRecDepth 100000 in
theorem decide_old (a0_0 a0_1 a0_2 a0_3 a0_4 : Bool) (a2 a3 : Int) (w : World) (hr : flags_Right.f a0_0 a0_1 a0_2 a0_3 a0_4 false = some true) (r1 r2 r3 : Int) (h : flags_Decide.f a0_0 a0_1 a0_2 a0_3 a0_4 false true a2 a3 = some (r1, r2, r3)) :
    Calls Try.prog 10 #[.agg #[.bool a0_0, .bool a0_1, .bool a0_2, .bool a0_3, .bool a0_4, .bool false], .bool true, .int .i64 a2, .int .i64 a3] w fun e w' => e = .returned (.tuple #[.int .i64 r1, .int .i64 r2, .int .i64 r3]) ∧ Below w.heap.size w w' := by
  have HR := Lib.hid hr
  simp only [flags_Decide.f, hr, Option.bind_some] at h
  clear hr
  cases a0_0
  · by_cases hq : a3 = a2
    · subst hq
      have H := Lib.hid h
      clear h
      go_enter Try.func10, Try.ntmps10
      go_wp2_with fail
      refine (flags_Right.calls _ _ _ _ _ _ _ _ HR.out).mono ?_
      rintro e w1 ⟨rfl, hb⟩
      obtain ⟨hc, hf⟩ := bcell hb
      go_wp2
      go_ret3
      exact ⟨ret3 (by rw [← H.out]; simp [decided]), below_weaken (below_alloc (Below.refl _ _) _) (by simp) hb⟩
    · have hq2 := notB hq
      have HQ := Lib.hid hq
      have H := Lib.hid h
      clear h hq
      by_cases h1 : a3 < a2
      all_goals
        cases a0_2 <;> cases a0_3
        all_goals
          go_enter Try.func10, Try.ntmps10
          go_wp2_with fail
          refine (flags_Right.calls _ _ _ _ _ _ _ _ HR.out).mono ?_
          rintro e w1 ⟨rfl, hb⟩
          obtain ⟨hc, hf⟩ := bcell hb
          go_wp2
          all_goals
            go_ret3
            exact ⟨ret3 (by have hq := HQ.out; rw [← H.out]; simp [decided, hq]; try omega), below_weaken (below_alloc (Below.refl _ _) _) (by simp) hb⟩
  · have H := Lib.hid h
    clear h
    go_enter Try.func10, Try.ntmps10
    go_wp2_with fail
    refine (flags_Right.calls _ _ _ _ _ _ _ _ HR.out).mono ?_
    rintro e w1 ⟨rfl, hb⟩
    obtain ⟨hc, hf⟩ := bcell hb
    go_wp2
    go_ret3
    exact ⟨ret3 (by rw [← H.out]; simp), below_weaken (below_alloc (Below.refl _ _) _) (by simp) hb⟩

set_option maxHeartbeats 8000000 in
set_option maxRecDepth 100000 in
theorem decide_sum (a0_0 a0_1 a0_2 a0_3 a0_4 : Bool) (a2 a3 : Int) (w : World) (hr : flags_Right.f a0_0 a0_1 a0_2 a0_3 a0_4 true = some true) (r1 r2 r3 : Int) (h : flags_Decide.f a0_0 a0_1 a0_2 a0_3 a0_4 true true a2 a3 = some (r1, r2, r3)) :
    Calls Try.prog 10 #[.agg #[.bool a0_0, .bool a0_1, .bool a0_2, .bool a0_3, .bool a0_4, .bool true], .bool true, .int .i64 a2, .int .i64 a3] w fun e w' => e = .returned (.tuple #[.int .i64 r1, .int .i64 r2, .int .i64 r3]) ∧ Below w.heap.size w w' := by
  have HR := Lib.hid hr
  simp only [flags_Decide.f, hr, Option.bind_some] at h
  clear hr
  cases a0_0
  · simp only [Bool.true_eq_false, Bool.false_eq_true, if_false, if_true, false_and, and_false, or_false] at h
    obtain ⟨⟨n, e⟩, ha, h⟩ := Option.bind_eq_some_iff.mp h
    have HA := Lib.hid ha
    clear ha
    by_cases he : e = 0
    · subst he
      by_cases hq : n = a2
      · subst hq
        have H := Lib.hid h
        clear h
        go_enter Try.func10, Try.ntmps10
        go_wp2_with fail
        refine (flags_Right.calls _ _ _ _ _ _ _ _ HR.out).mono ?_
        rintro e w1 ⟨rfl, hb⟩
        obtain ⟨hc, hf⟩ := bcell hb
        go_wp2_with fail
        refine (ints_Add.calls _ _ _ _ _ HA.out).mono ?_
        rintro e w2 ⟨rfl, hd⟩
        obtain ⟨nd, rfl⟩ := hd.out
        go_wp2
        go_ret3
        exact ⟨ret3 (by rw [← H.out]; simp [decided]), by repeat (first | exact below_weaken (below_alloc (Below.refl _ _) _) (by simp) hb | apply below_alloc | apply pw_below_drewN | apply below_drew1)⟩
      · have hq2 := notB hq
        have HQ := Lib.hid hq
        have H := Lib.hid h
        clear h hq
        by_cases h1 : n < a2
        all_goals
          cases a0_2 <;> cases a0_3
          all_goals
            go_enter Try.func10, Try.ntmps10
            go_wp2_with fail
            refine (flags_Right.calls _ _ _ _ _ _ _ _ HR.out).mono ?_
            rintro e w1 ⟨rfl, hb⟩
            obtain ⟨hc, hf⟩ := bcell hb
            go_wp2_with fail
            refine (ints_Add.calls _ _ _ _ _ HA.out).mono ?_
            rintro e w2 ⟨rfl, hd⟩
            obtain ⟨nd, rfl⟩ := hd.out
            go_wp2
            all_goals
              go_ret3
              exact ⟨ret3 (by have hq := HQ.out; rw [← H.out]; simp [decided, hq]; try omega), by repeat (first | exact below_weaken (below_alloc (Below.refl _ _) _) (by simp) hb | apply below_alloc | apply pw_below_drewN | apply below_drew1)⟩
    · have he2 : (e != 0) = true := bne_iff_ne.mpr he
      have H := Lib.hid h
      clear h he
      go_enter Try.func10, Try.ntmps10
      go_wp2_with fail
      refine (flags_Right.calls _ _ _ _ _ _ _ _ HR.out).mono ?_
      rintro e w1 ⟨rfl, hb⟩
      obtain ⟨hc, hf⟩ := bcell hb
      go_wp2_with fail
      refine (ints_Add.calls _ _ _ _ _ HA.out).mono ?_
      rintro e w2 ⟨rfl, hd⟩
      obtain ⟨nd, rfl⟩ := hd.out
      go_wp2
      go_ret3
      exact ⟨ret3 (by rw [← H.out]; simp [decided, bne_iff_ne.mp he2]), by repeat (first | exact below_weaken (below_alloc (Below.refl _ _) _) (by simp) hb | apply below_alloc | apply pw_below_drewN | apply below_drew1)⟩
  · have H := Lib.hid h
    clear h
    go_enter Try.func10, Try.ntmps10
    go_wp2_with fail
    refine (flags_Right.calls _ _ _ _ _ _ _ _ HR.out).mono ?_
    rintro e w1 ⟨rfl, hb⟩
    obtain ⟨hc, hf⟩ := bcell hb
    go_wp2
    go_ret3
    exact ⟨ret3 (by rw [← H.out]; simp), below_weaken (below_alloc (Below.refl _ _) _) (by simp) hb⟩

theorem flags_Decide.calls (a0_0 a0_1 a0_2 a0_3 a0_4 a0_5 a1 : Bool) (a2 a3 : Int) (r1 r2 r3 : Int) (w : World) (h : flags_Decide.f a0_0 a0_1 a0_2 a0_3 a0_4 a0_5 a1 a2 a3 = some (r1, r2, r3)) :
    Calls Try.prog 10 #[.agg #[.bool a0_0, .bool a0_1, .bool a0_2, .bool a0_3, .bool a0_4, .bool a0_5], .bool a1, .int .i64 a2, .int .i64 a3] w fun e w' => e = .returned (.tuple #[.int .i64 r1, .int .i64 r2, .int .i64 r3]) ∧ Below w.heap.size w w' := by
  cases hr : flags_Right.f a0_0 a0_1 a0_2 a0_3 a0_4 a0_5 with
  | none => simp [flags_Right.f] at hr
  | some ok =>
    cases ok
    · have h2 := h
      simp only [flags_Decide.f, hr, Option.bind_some, if_true, Option.some.injEq, Prod.mk.injEq] at h2
      obtain ⟨rfl, rfl, rfl⟩ := h2
      exact decide_no _ _ _ _ _ _ _ _ _ _ hr
    · cases a1
      · exact decide_new _ _ _ _ _ _ _ _ _ hr _ _ _ h
      · cases a0_5
        · exact decide_old _ _ _ _ _ _ _ _ hr _ _ _ h
        · exact decide_sum _ _ _ _ _ _ _ _ hr _ _ _ h
end Go.Proofs.Ytndjbhibajjaoaa.P
