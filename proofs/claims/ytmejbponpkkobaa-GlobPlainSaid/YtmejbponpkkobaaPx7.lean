/- Each theorem <function>.calls: a call of the Go function comes to the answer of the Lean function <function>.f. Conditions: that the Lean function has an answer; each theorem names its own. -/
import Derived.Test.YtmejbponpkkobaaPx0
import Derived.Test.YtmejbponpkkobaaPx4
import Derived.Test.YtmejbponpkkobaaPx6
import Derived.Test.YtmejbponpkkobaaPH11
import Derived.Test.YtmejbponpkkobaaPH15
import Derived.Test.YtmejbponpkkobaaPH9
namespace Go.Proofs.Ytmejbponpkkobaa.P
open Go.RowKit Go.Proofs.YtmejbponpkkobaaW.PrintWords Go.Proofs.YtmejbponpkkobaaW.PrintLast Go.Proofs.YtmejbponpkkobaaW.PrintMore
attribute [local go_sem] max2_int min2_int max_two min_two max_three min_three max_four min_four   -- for this text's walks alone
set_option linter.unusedVariables false
set_option linter.unusedSimpArgs false

/-! ### paliolaw02_GlobPlain: function 8 -/
def paliolaw02_GlobPlain.f (k : Nat) (a0 : ByteArray) : Option (Bool) := (paliolaw02_shown.f).bind fun t215 => ((paliolaw02_cut.f a0).bind fun t216 => (if t215 = true then ((glob_Plain.f t216).bind fun t217 => ((palioref02_Plain.f k t216).bind fun t218 => (if (t217 == t218) = true then ((glob_Quote.f t216).bind fun t219 => ((palioref02_Quote.f k t216).bind fun t220 => (if t219.toList = t220.toList then ((glob_Count.f t216).bind fun t221 => ((palioref02_Count.f t216).bind fun t222 => (some (t221 == t222)))) else (some false)))) else (some false)))) else (some false)))
theorem paliolaw02_GlobPlain.mono : ∀ a0 k, LeO (paliolaw02_GlobPlain.f k a0) (paliolaw02_GlobPlain.f (k + 1) a0) := by
  intro a0 k
  unfold paliolaw02_GlobPlain.f
  repeat' first
      | (with_reducible exact palioref02_Plain.mono _ _)
      | (with_reducible exact palioref02_Quote.mono _ _)
      | (with_reducible exact LeO.refl _)
      | (with_reducible exact LeO.none _)
      | (with_reducible refine LeO.ite ?_ ?_)
      | (with_reducible refine LeO.bind ?_ (fun _ => ?_))
      | exact palioref02_Plain.mono _ _
      | exact palioref02_Quote.mono _ _
      | exact LeO.none _
      | refine LeO.ite ?_ ?_
      | refine LeO.bind ?_ (fun _ => ?_)
set_option maxHeartbeats 8000000 in
set_option maxRecDepth 100000 in
theorem paliolaw02_GlobPlain.calls (k : Nat) (a0 : ByteArray) (r : Bool) (w : World) (h : paliolaw02_GlobPlain.f k a0 = some r) :
    Calls Try.prog 8 #[.string a0] w fun e w' => e = .returned (.bool r) ∧ Below w.heap.size w w' := by
  have HB := Aside0.mk (Below.refl w.heap.size w)
  have H : ((paliolaw02_shown.f).bind fun t215 => ((paliolaw02_cut.f a0).bind fun t216 => (if t215 = true then ((glob_Plain.f t216).bind fun t217 => ((palioref02_Plain.f k t216).bind fun t218 => (if (t217 == t218) = true then ((glob_Quote.f t216).bind fun t219 => ((palioref02_Quote.f k t216).bind fun t220 => (if t219.toList = t220.toList then ((glob_Count.f t216).bind fun t221 => ((palioref02_Count.f t216).bind fun t222 => (some (t221 == t222)))) else (some false)))) else (some false)))) else (some false)))) = some r := h
  clear h
  replace H := Option.bind_eq_some_iff.mp H
  obtain ⟨t215, A20, H⟩ := H
  replace H : ((paliolaw02_cut.f a0).bind fun t216 => (if t215 = true then ((glob_Plain.f t216).bind fun t217 => ((palioref02_Plain.f k t216).bind fun t218 => (if (t217 == t218) = true then ((glob_Quote.f t216).bind fun t219 => ((palioref02_Quote.f k t216).bind fun t220 => (if t219.toList = t220.toList then ((glob_Count.f t216).bind fun t221 => ((palioref02_Count.f t216).bind fun t222 => (some (t221 == t222)))) else (some false)))) else (some false)))) else (some false))) = some r := H
  have A2 := Aside0.mk A20
  clear A20
  replace H := Option.bind_eq_some_iff.mp H
  obtain ⟨t216, A30, H⟩ := H
  replace H : (if t215 = true then ((glob_Plain.f t216).bind fun t217 => ((palioref02_Plain.f k t216).bind fun t218 => (if (t217 == t218) = true then ((glob_Quote.f t216).bind fun t219 => ((palioref02_Quote.f k t216).bind fun t220 => (if t219.toList = t220.toList then ((glob_Count.f t216).bind fun t221 => ((palioref02_Count.f t216).bind fun t222 => (some (t221 == t222)))) else (some false)))) else (some false)))) else (some false)) = some r := H
  have A3 := Aside0.mk A30
  clear A30
  by_cases c4 : t215 = true
  · subst c4
    have H1 : ((glob_Plain.f t216).bind fun t217 => ((palioref02_Plain.f k t216).bind fun t218 => (if (t217 == t218) = true then ((glob_Quote.f t216).bind fun t219 => ((palioref02_Quote.f k t216).bind fun t220 => (if t219.toList = t220.toList then ((glob_Count.f t216).bind fun t221 => ((palioref02_Count.f t216).bind fun t222 => (some (t221 == t222)))) else (some false)))) else (some false)))) = some r := by rw [if_pos rfl] at H; exact H
    clear H
    have H := H1
    clear H1
    replace H := Option.bind_eq_some_iff.mp H
    obtain ⟨t217, A50, H⟩ := H
    replace H : ((palioref02_Plain.f k t216).bind fun t218 => (if (t217 == t218) = true then ((glob_Quote.f t216).bind fun t219 => ((palioref02_Quote.f k t216).bind fun t220 => (if t219.toList = t220.toList then ((glob_Count.f t216).bind fun t221 => ((palioref02_Count.f t216).bind fun t222 => (some (t221 == t222)))) else (some false)))) else (some false))) = some r := H
    have A5 := Aside0.mk A50
    clear A50
    replace H := Option.bind_eq_some_iff.mp H
    obtain ⟨t218, A60, H⟩ := H
    replace H : (if (t217 == t218) = true then ((glob_Quote.f t216).bind fun t219 => ((palioref02_Quote.f k t216).bind fun t220 => (if t219.toList = t220.toList then ((glob_Count.f t216).bind fun t221 => ((palioref02_Count.f t216).bind fun t222 => (some (t221 == t222)))) else (some false)))) else (some false)) = some r := H
    have A6 := Aside0.mk A60
    clear A60
    by_cases c7 : (t217 == t218) = true
    · rw [if_pos c7] at H
      have c7b0 : (t217 == t218) = true := c7
      (try (have c7b1 : decide (t217 = t218) = true := by simpa using c7))
      (try (have c7b2 : (t217 == t218) = true := by simpa using c7))
      clear c7
      replace H := Option.bind_eq_some_iff.mp H
      obtain ⟨t219, A80, H⟩ := H
      replace H : ((palioref02_Quote.f k t216).bind fun t220 => (if t219.toList = t220.toList then ((glob_Count.f t216).bind fun t221 => ((palioref02_Count.f t216).bind fun t222 => (some (t221 == t222)))) else (some false))) = some r := H
      have A8 := Aside0.mk A80
      clear A80
      replace H := Option.bind_eq_some_iff.mp H
      obtain ⟨t220, A90, H⟩ := H
      replace H : (if t219.toList = t220.toList then ((glob_Count.f t216).bind fun t221 => ((palioref02_Count.f t216).bind fun t222 => (some (t221 == t222)))) else (some false)) = some r := H
      have A9 := Aside0.mk A90
      clear A90
      by_cases c10 : t219.toList = t220.toList
      · rw [if_pos c10] at H
        have c10b0 : (t219.toList == t220.toList) = true := beq_iff_eq.mpr c10
        have c10b1 : (t219.toList != t220.toList) = false := bne_eq_false_iff_eq.mpr c10
        clear c10
        replace H := Option.bind_eq_some_iff.mp H
        obtain ⟨t221, A110, H⟩ := H
        replace H : ((palioref02_Count.f t216).bind fun t222 => (some (t221 == t222))) = some r := H
        have A11 := Aside0.mk A110
        clear A110
        replace H := Option.bind_eq_some_iff.mp H
        obtain ⟨t222, A120, H⟩ := H
        replace H : (some (t221 == t222)) = some r := H
        have A12 := Aside0.mk A120
        clear A120
        obtain rfl := Option.some.inj H
        go_enter Try.func8, Try.ntmps8
        go_wp2_with (first | ((with_reducible refine gate_callee (f := 9) rfl ?_); refine goesL_ (some 4) rfl rfl Try.func9 (by kernel_rfl) rfl #[] rfl (by (try simp only [List.map_toArray, List.map_cons, List.map_nil]); first | done | rfl | (simp only [List.length_drop, List.length_take]; rfl)) ?_; (with_reducible refine (paliolaw02_shown.calls  true _ A2.out).mono ?_); rintro e w13 ⟨rfl, hb⟩; refine ⟨_, rfl, ?_⟩; have n0_ := Aside0.mk (below_step (by repeat (first | (with_reducible first | exact HB.out | apply below_alloc | apply pw_below_drewN | apply below_drew1) | exact HB.out)) hb); clear HB; have HB := n0_; clear n0_; (try clear hb); (try clear hb2); (try clear hk); (try clear hi)) | ((with_reducible refine gate_callee (f := 14) rfl ?_); refine goesL_ (some 6) rfl rfl Try.func14 (by kernel_rfl) rfl #[.string a0] rfl (by (try simp only [List.map_toArray, List.map_cons, List.map_nil]); first | done | rfl | (simp only [List.length_drop, List.length_take]; rfl)) ?_; (with_reducible refine (paliolaw02_cut.calls a0 t216 _ A3.out).mono ?_); rintro e w14 ⟨rfl, hb⟩; refine ⟨_, rfl, ?_⟩; have n0_ := Aside0.mk (below_step (by repeat (first | (with_reducible first | exact HB.out | apply below_alloc | apply pw_below_drewN | apply below_drew1) | exact HB.out)) hb); clear HB; have HB := n0_; clear n0_; (try clear hb); (try clear hb2); (try clear hk); (try clear hi)) | (go_at_call 13; (with_reducible refine (glob_Plain.calls t216 t217 _ A5.out).mono ?_); rintro e w15 ⟨rfl, hb⟩; have n0_ := Aside0.mk (below_step (by repeat (first | (with_reducible first | exact HB.out | apply below_alloc | apply pw_below_drewN | apply below_drew1) | exact HB.out)) hb); clear HB; have HB := n0_; clear n0_; (try clear hb); (try clear hb2); (try clear hk); (try clear hi)) | (go_at_call 15; (with_reducible refine (palioref02_Plain.calls k t216 t218 _ A6.out).mono ?_); rintro e w' ⟨rfl, ⟨nd, rfl⟩⟩) | (go_at_call 12; (with_reducible refine (glob_Quote.calls t216 t219 _ A8.out).mono ?_); rintro e w16 ⟨rfl, hb⟩; have n0_ := Aside0.mk (below_step (by repeat (first | (with_reducible first | exact HB.out | apply below_alloc | apply pw_below_drewN | apply below_drew1) | exact HB.out)) hb); clear HB; have HB := n0_; clear n0_; (try clear hb); (try clear hb2); (try clear hk); (try clear hi)) | (go_at_call 16; (with_reducible refine (palioref02_Quote.calls k t216 t220 _ A9.out).mono ?_); rintro e w17 ⟨rfl, hb⟩; have n0_ := Aside0.mk (below_step (by repeat (first | (with_reducible first | exact HB.out | apply below_alloc | apply pw_below_drewN | apply below_drew1) | exact HB.out)) hb); clear HB; have HB := n0_; clear n0_; (try clear hb); (try clear hb2); (try clear hk); (try clear hi)) | (go_at_call 11; (with_reducible refine (glob_Count.calls t216 t221 _ A11.out).mono ?_); rintro e w18 ⟨rfl, hb⟩; have n0_ := Aside0.mk (below_step (by repeat (first | (with_reducible first | exact HB.out | apply below_alloc | apply pw_below_drewN | apply below_drew1) | exact HB.out)) hb); clear HB; have HB := n0_; clear n0_; (try clear hb); (try clear hb2); (try clear hk); (try clear hi)) | (go_at_call 17; (with_reducible refine (palioref02_Count.calls t216 t222 _ A12.out).mono ?_); rintro e w19 ⟨rfl, hb⟩; have n0_ := Aside0.mk (below_step (by repeat (first | (with_reducible first | exact HB.out | apply below_alloc | apply pw_below_drewN | apply below_drew1) | exact HB.out)) hb); clear HB; have HB := n0_; clear n0_; (try clear hb); (try clear hb2); (try clear hk); (try clear hi)))
        go_ret
        exact ⟨by first | rfl | (simp [errW_none, errW_some] <;> rfl) | (simp [*, errW_none, errW_some] <;> rfl), by repeat (first | (with_reducible first | exact HB.out | apply below_alloc | apply pw_below_drewN | apply below_drew1) | exact HB.out)⟩
      · rw [if_neg c10] at H
        have c10b0 : (t219.toList == t220.toList) = false := beq_eq_false_iff_ne.mpr c10
        have c10b1 : (t219.toList != t220.toList) = true := bne_iff_ne.mpr c10
        obtain rfl := Option.some.inj H
        go_enter Try.func8, Try.ntmps8
        go_wp2_with (first | ((with_reducible refine gate_callee (f := 9) rfl ?_); refine goesL_ (some 4) rfl rfl Try.func9 (by kernel_rfl) rfl #[] rfl (by (try simp only [List.map_toArray, List.map_cons, List.map_nil]); first | done | rfl | (simp only [List.length_drop, List.length_take]; rfl)) ?_; (with_reducible refine (paliolaw02_shown.calls  true _ A2.out).mono ?_); rintro e w20 ⟨rfl, hb⟩; refine ⟨_, rfl, ?_⟩; have n0_ := Aside0.mk (below_step (by repeat (first | (with_reducible first | exact HB.out | apply below_alloc | apply pw_below_drewN | apply below_drew1) | exact HB.out)) hb); clear HB; have HB := n0_; clear n0_; (try clear hb); (try clear hb2); (try clear hk); (try clear hi)) | ((with_reducible refine gate_callee (f := 14) rfl ?_); refine goesL_ (some 6) rfl rfl Try.func14 (by kernel_rfl) rfl #[.string a0] rfl (by (try simp only [List.map_toArray, List.map_cons, List.map_nil]); first | done | rfl | (simp only [List.length_drop, List.length_take]; rfl)) ?_; (with_reducible refine (paliolaw02_cut.calls a0 t216 _ A3.out).mono ?_); rintro e w21 ⟨rfl, hb⟩; refine ⟨_, rfl, ?_⟩; have n0_ := Aside0.mk (below_step (by repeat (first | (with_reducible first | exact HB.out | apply below_alloc | apply pw_below_drewN | apply below_drew1) | exact HB.out)) hb); clear HB; have HB := n0_; clear n0_; (try clear hb); (try clear hb2); (try clear hk); (try clear hi)) | (go_at_call 13; (with_reducible refine (glob_Plain.calls t216 t217 _ A5.out).mono ?_); rintro e w22 ⟨rfl, hb⟩; have n0_ := Aside0.mk (below_step (by repeat (first | (with_reducible first | exact HB.out | apply below_alloc | apply pw_below_drewN | apply below_drew1) | exact HB.out)) hb); clear HB; have HB := n0_; clear n0_; (try clear hb); (try clear hb2); (try clear hk); (try clear hi)) | (go_at_call 15; (with_reducible refine (palioref02_Plain.calls k t216 t218 _ A6.out).mono ?_); rintro e w' ⟨rfl, ⟨nd, rfl⟩⟩) | (go_at_call 12; (with_reducible refine (glob_Quote.calls t216 t219 _ A8.out).mono ?_); rintro e w23 ⟨rfl, hb⟩; have n0_ := Aside0.mk (below_step (by repeat (first | (with_reducible first | exact HB.out | apply below_alloc | apply pw_below_drewN | apply below_drew1) | exact HB.out)) hb); clear HB; have HB := n0_; clear n0_; (try clear hb); (try clear hb2); (try clear hk); (try clear hi)) | (go_at_call 16; (with_reducible refine (palioref02_Quote.calls k t216 t220 _ A9.out).mono ?_); rintro e w24 ⟨rfl, hb⟩; have n0_ := Aside0.mk (below_step (by repeat (first | (with_reducible first | exact HB.out | apply below_alloc | apply pw_below_drewN | apply below_drew1) | exact HB.out)) hb); clear HB; have HB := n0_; clear n0_; (try clear hb); (try clear hb2); (try clear hk); (try clear hi)))
        go_ret
        exact ⟨by first | rfl | (simp [errW_none, errW_some] <;> rfl) | (simp [*, errW_none, errW_some] <;> rfl), by repeat (first | (with_reducible first | exact HB.out | apply below_alloc | apply pw_below_drewN | apply below_drew1) | exact HB.out)⟩
    · rw [if_neg c7] at H
      have c7b0 : (t217 == t218) = false := by simpa using c7
      (try (have c7b1 : decide (t217 = t218) = false := by simpa using c7))
      (try (have c7b2 : (t217 == t218) = false := by simpa using c7))
      (try (have c7b3 : ¬ (t217 = t218) := by simpa using c7))
      clear c7
      obtain rfl := Option.some.inj H
      go_enter Try.func8, Try.ntmps8
      go_wp2_with (first | ((with_reducible refine gate_callee (f := 9) rfl ?_); refine goesL_ (some 4) rfl rfl Try.func9 (by kernel_rfl) rfl #[] rfl (by (try simp only [List.map_toArray, List.map_cons, List.map_nil]); first | done | rfl | (simp only [List.length_drop, List.length_take]; rfl)) ?_; (with_reducible refine (paliolaw02_shown.calls  true _ A2.out).mono ?_); rintro e w25 ⟨rfl, hb⟩; refine ⟨_, rfl, ?_⟩; have n0_ := Aside0.mk (below_step (by repeat (first | (with_reducible first | exact HB.out | apply below_alloc | apply pw_below_drewN | apply below_drew1) | exact HB.out)) hb); clear HB; have HB := n0_; clear n0_; (try clear hb); (try clear hb2); (try clear hk); (try clear hi)) | ((with_reducible refine gate_callee (f := 14) rfl ?_); refine goesL_ (some 6) rfl rfl Try.func14 (by kernel_rfl) rfl #[.string a0] rfl (by (try simp only [List.map_toArray, List.map_cons, List.map_nil]); first | done | rfl | (simp only [List.length_drop, List.length_take]; rfl)) ?_; (with_reducible refine (paliolaw02_cut.calls a0 t216 _ A3.out).mono ?_); rintro e w26 ⟨rfl, hb⟩; refine ⟨_, rfl, ?_⟩; have n0_ := Aside0.mk (below_step (by repeat (first | (with_reducible first | exact HB.out | apply below_alloc | apply pw_below_drewN | apply below_drew1) | exact HB.out)) hb); clear HB; have HB := n0_; clear n0_; (try clear hb); (try clear hb2); (try clear hk); (try clear hi)) | (go_at_call 13; (with_reducible refine (glob_Plain.calls t216 t217 _ A5.out).mono ?_); rintro e w27 ⟨rfl, hb⟩; have n0_ := Aside0.mk (below_step (by repeat (first | (with_reducible first | exact HB.out | apply below_alloc | apply pw_below_drewN | apply below_drew1) | exact HB.out)) hb); clear HB; have HB := n0_; clear n0_; (try clear hb); (try clear hb2); (try clear hk); (try clear hi)) | (go_at_call 15; (with_reducible refine (palioref02_Plain.calls k t216 t218 _ A6.out).mono ?_); rintro e w' ⟨rfl, ⟨nd, rfl⟩⟩))
      go_ret
      exact ⟨by first | rfl | (simp [errW_none, errW_some] <;> rfl) | (simp [*, errW_none, errW_some] <;> rfl), by repeat (first | (with_reducible first | exact HB.out | apply below_alloc | apply pw_below_drewN | apply below_drew1) | exact HB.out)⟩
  · replace c4 := Bool.eq_false_iff.mpr c4
    subst c4
    have H1 : (some false) = some r := by rw [if_neg (show ¬ (false = true) by decide)] at H; exact H
    clear H
    have H := H1
    clear H1
    obtain rfl := Option.some.inj H
    go_enter Try.func8, Try.ntmps8
    go_wp2_with (first | ((with_reducible refine gate_callee (f := 9) rfl ?_); refine goesL_ (some 4) rfl rfl Try.func9 (by kernel_rfl) rfl #[] rfl (by (try simp only [List.map_toArray, List.map_cons, List.map_nil]); first | done | rfl | (simp only [List.length_drop, List.length_take]; rfl)) ?_; (with_reducible refine (paliolaw02_shown.calls  false _ A2.out).mono ?_); rintro e w28 ⟨rfl, hb⟩; refine ⟨_, rfl, ?_⟩; have n0_ := Aside0.mk (below_step (by repeat (first | (with_reducible first | exact HB.out | apply below_alloc | apply pw_below_drewN | apply below_drew1) | exact HB.out)) hb); clear HB; have HB := n0_; clear n0_; (try clear hb); (try clear hb2); (try clear hk); (try clear hi)) | ((with_reducible refine gate_callee (f := 14) rfl ?_); refine goesL_ (some 6) rfl rfl Try.func14 (by kernel_rfl) rfl #[.string a0] rfl (by (try simp only [List.map_toArray, List.map_cons, List.map_nil]); first | done | rfl | (simp only [List.length_drop, List.length_take]; rfl)) ?_; (with_reducible refine (paliolaw02_cut.calls a0 t216 _ A3.out).mono ?_); rintro e w29 ⟨rfl, hb⟩; refine ⟨_, rfl, ?_⟩; have n0_ := Aside0.mk (below_step (by repeat (first | (with_reducible first | exact HB.out | apply below_alloc | apply pw_below_drewN | apply below_drew1) | exact HB.out)) hb); clear HB; have HB := n0_; clear n0_; (try clear hb); (try clear hb2); (try clear hk); (try clear hi)))
    go_ret
    exact ⟨by first | rfl | (simp [errW_none, errW_some] <;> rfl) | (simp [*, errW_none, errW_some] <;> rfl), by repeat (first | (with_reducible first | exact HB.out | apply below_alloc | apply pw_below_drewN | apply below_drew1) | exact HB.out)⟩

/-- THE ONE PURE STATEMENT of paliolaw02_GlobPlain: yours. -/
def paliolaw02_GlobPlain.Pure : Prop := ∀ (a0 : ByteArray), a0.size ≤ 140737488351232 → ∃ k, paliolaw02_GlobPlain.f k a0 = some true
theorem paliolaw02_GlobPlain.walk (P : paliolaw02_GlobPlain.Pure) (a0 : ByteArray) (w : World) (w0 : a0.size ≤ 140737488351232) :
    Calls Try.prog 8 #[.string a0] w fun e w' => e = .returned (.bool true) ∧ Below w.heap.size w w' := by
  obtain ⟨k, h⟩ := P a0 w0
  refine (paliolaw02_GlobPlain.calls k a0 true w h).mono ?_
  rintro e w' ⟨rfl, hd⟩
  exact ⟨rfl, hd⟩

end Go.Proofs.Ytmejbponpkkobaa.P
