/- The law 'FlagsRises': a call of it answers true, at any flags, whether a member is there, two numbers that are of 64 bits. Conditions: each theorem names its own. -/
import Derived.Test.YtndjbhibajjaoaaPx2
namespace Go.Proofs.Ytndjbhibajjaoaa.P
open Go.RowKit Go.Proofs.YtndjbhibajjaoaaW.PrintWords Go.Proofs.YtndjbhibajjaoaaW.PrintLast Go.Proofs.YtndjbhibajjaoaaW.PrintMore

theorem two_below {w W w1 w2 : World} (h0 : Below w.heap.size w W) (h1 : Below W.heap.size W w1) (h2 : Below w1.heap.size w1 w2) : Below w.heap.size w w2 := below_weaken (below_weaken h0 h0.size h1) (below_weaken h0 h0.size h1).size h2
set_option maxHeartbeats 8000000 in
set_option maxRecDepth 100000 in
theorem rises_err (nx xx gt lt ch incr is : Bool) (old n a did e : Int) (hsh : paliolaw12_shown.f = some true) (he : (e != 0) = true) (hd : flags_Decide.f nx xx gt lt ch incr is old n = some (a, did, e)) (w : World) :
    Calls Try.prog 5 #[.agg #[.bool nx, .bool xx, .bool gt, .bool lt, .bool ch, .bool incr], .bool is, .int .i64 old, .int .i64 n] w fun e w' => e = .returned (.bool true) ∧ Below w.heap.size w w' := by
  have HS := Lib.hid hsh
  have HD := Lib.hid hd
  clear hsh hd
  go_enter Try.func5, Try.ntmps5
  simp only [List.append_eq, List.cons_append, List.nil_append]
  go_wp2_with fail
  refine (paliolaw12_shown.calls _ _ HS.out).mono ?_
  rintro e' w1 ⟨rfl, hb⟩
  obtain ⟨hc, hf⟩ := bcell hb
  go_wp2_with fail
  refine (flags_Decide.calls _ _ _ _ _ _ _ _ _ _ _ _ _ HD.out).mono ?_
  rintro e' w2 ⟨rfl, hb2⟩
  go_wp2
  go_ret
  exact ⟨rfl, two_below (below_alloc (Below.refl _ _) _) hb hb2⟩
set_option maxHeartbeats 8000000 in
set_option maxRecDepth 100000 in
theorem rises_new (nx xx gt lt ch incr : Bool) (old n a did : Int) (hsh : paliolaw12_shown.f = some true) (hdid : did = if xx then 0 else 1) (hd : flags_Decide.f nx xx gt lt ch incr false old n = some (a, did, 0)) (w : World) :
    Calls Try.prog 5 #[.agg #[.bool nx, .bool xx, .bool gt, .bool lt, .bool ch, .bool incr], .bool false, .int .i64 old, .int .i64 n] w fun e w' => e = .returned (.bool true) ∧ Below w.heap.size w w' := by
  have HS := Lib.hid hsh
  clear hsh
  subst hdid
  have HD := Lib.hid hd
  clear hd
  cases xx <;> cases nx <;> cases gt <;> cases lt
  all_goals
    simp only [if_true, if_false, Bool.false_eq_true] at HD
    go_enter Try.func5, Try.ntmps5
    simp only [List.append_eq, List.cons_append, List.nil_append]
    go_wp2_with fail
    refine (paliolaw12_shown.calls _ _ HS.out).mono ?_
    rintro e' w1 ⟨rfl, hb⟩
    obtain ⟨hc, hf⟩ := bcell hb
    go_wp2_with fail
    refine (flags_Decide.calls _ _ _ _ _ _ _ _ _ _ _ _ _ HD.out).mono ?_
    rintro e' w2 ⟨rfl, hb2⟩
    obtain ⟨hc2, hf2⟩ := bcell hb2
    have hz : w.heap.size < w1.heap.size := by have := hb.size; simp at this; omega
    go_wp2
    go_ret
    exact ⟨rfl, two_below (below_alloc (Below.refl _ _) _) hb hb2⟩

set_option maxHeartbeats 8000000 in
set_option maxRecDepth 100000 in
theorem rises_kept (nx xx gt lt ch incr : Bool) (old n : Int) (hsh : paliolaw12_shown.f = some true) (hd : flags_Decide.f nx xx gt lt ch incr true old n = some (old, 0, 0)) (w : World) :
    Calls Try.prog 5 #[.agg #[.bool nx, .bool xx, .bool gt, .bool lt, .bool ch, .bool incr], .bool true, .int .i64 old, .int .i64 n] w fun e w' => e = .returned (.bool true) ∧ Below w.heap.size w w' := by
  have HS := Lib.hid hsh
  clear hsh
  have HD := Lib.hid hd
  clear hd
  cases xx <;> cases nx <;> cases gt <;> cases lt
  all_goals
    go_enter Try.func5, Try.ntmps5
    simp only [List.append_eq, List.cons_append, List.nil_append]
    go_wp2_with fail
    refine (paliolaw12_shown.calls _ _ HS.out).mono ?_
    rintro e' w1 ⟨rfl, hb⟩
    obtain ⟨hc, hf⟩ := bcell hb
    go_wp2_with fail
    refine (flags_Decide.calls _ _ _ _ _ _ _ _ _ _ _ _ _ HD.out).mono ?_
    rintro e' w2 ⟨rfl, hb2⟩
    obtain ⟨hc2, hf2⟩ := bcell hb2
    have hz : w.heap.size < w1.heap.size := by have := hb.size; simp at this; omega
    go_wp2
    go_ret
    exact ⟨rfl, two_below (below_alloc (Below.refl _ _) _) hb hb2⟩
set_option maxHeartbeats 8000000 in
set_option maxRecDepth 100000 in
theorem rises_moved (xx gt lt ch incr : Bool) (old n a : Int) (hsh : paliolaw12_shown.f = some true) (hne : (a == old) = false) (hg : gt = true → old ≤ a) (hl : lt = true → a ≤ old) (hd : flags_Decide.f false xx gt lt ch incr true old n = some (a, 2, 0)) (w : World) :
    Calls Try.prog 5 #[.agg #[.bool false, .bool xx, .bool gt, .bool lt, .bool ch, .bool incr], .bool true, .int .i64 old, .int .i64 n] w fun e w' => e = .returned (.bool true) ∧ Below w.heap.size w w' := by
  have HS := Lib.hid hsh
  clear hsh
  have HD := Lib.hid hd
  clear hd
  have hne2 : (a != old) = true := by rw [bne_iff_ne]; exact beq_eq_false_iff_ne.mp hne
  cases xx <;> cases gt <;> cases lt
  all_goals
    try have hg' := hg rfl
    try have hl' := hl rfl
    clear hg hl
    go_enter Try.func5, Try.ntmps5
    simp only [List.append_eq, List.cons_append, List.nil_append]
    go_wp2_with fail
    refine (paliolaw12_shown.calls _ _ HS.out).mono ?_
    rintro e' w1 ⟨rfl, hb⟩
    obtain ⟨hc, hf⟩ := bcell hb
    go_wp2_with fail
    refine (flags_Decide.calls _ _ _ _ _ _ _ _ _ _ _ _ _ HD.out).mono ?_
    rintro e' w2 ⟨rfl, hb2⟩
    obtain ⟨hc2, hf2⟩ := bcell hb2
    have hz : w.heap.size < w1.heap.size := by have := hb.size; simp at this; omega
    go_wp2
    go_ret
    exact ⟨rfl, two_below (below_alloc (Below.refl _ _) _) hb hb2⟩
end Go.Proofs.Ytndjbhibajjaoaa.P
