/- The reader's methods that take two ends. Conditions: each theorem names its own. -/
import Derived.Test.YtegmbgjolnbgpaaDoorCI
import Derived.Test.YtegmbgjolnbgpaaDoorPx4
namespace Go.Proofs.YtegmbgjolnbgpaaDoor.P
open Go.RowKit Go.Shelf Go.Proofs.YtegmbgjolnbgpaaDoorW.PrintWords Go.Proofs.YtegmbgjolnbgpaaDoorW.PrintLast Go.Proofs.YtegmbgjolnbgpaaDoorW.PrintMore
attribute [local go_sem] Oper.semAt_some
set_option linter.unusedSimpArgs false

section
variable {w0 w : World} {b : Nat} {c : Cm}
def isRange (s : ByteArray) : Bool := s.toList == [90, 82, 69, 86, 82, 65, 78, 71, 69]
def placesZ' (c : Cm) : List ByteArray → Rz
  | x :: y :: l => match numA x, numA y with
    | some n, some m => scoresZ { c with n := n, m := m, tu := isRange c.name } l
    | _, _ => bad 173
  | _ => bad 173
def placesZ (c : Cm) (l : List ByteArray) : Rz := keyZ c placesZ' l
theorem places_long {k : ByteArray} {l : List ByteArray} (hk : ¬ k.size ≤ 64) : placesZ c (k :: l) = bad 172 := keyZ_no hk
theorem placesZ_n1 {x y : ByteArray} {l : List ByteArray} (hx : numA x = none) : placesZ' c (x :: y :: l) = bad 173 := by simp [placesZ', hx]
theorem placesZ_n2 {x y : ByteArray} {l : List ByteArray} {n : Int} (hx : numA x = some n) (hy : numA y = none) : placesZ' c (x :: y :: l) = bad 173 := by simp [placesZ', hx, hy]
theorem placesZ_y {x y : ByteArray} {l : List ByteArray} {n m : Int} (hx : numA x = some n) (hy : numA y = some m) : placesZ' c (x :: y :: l) = scoresZ { c with n := n, m := m, tu := isRange c.name } l := by simp [placesZ', hx, hy]
/-- What an end of scores, of members reads as. -/
def bpP (s : ByteArray) : Bd × Int := match bound_Parse.f s with
  | some (n, o, i, e) => (⟨n, o, i⟩, e)
  | none => (zBd, 80)
def epP (s : ByteArray) : Ed × Int := match bound_ParseEdge.f s with
  | some (n, o, i, e) => (⟨n, o, i⟩, e)
  | none => (zEd, 80)
theorem split_some (s : ByteArray) (hs : s.size ≤ 1000) (l : List Int) (hl : l.length = 1 ∨ l.length = 2) (ha : l.all (fun x => decide (0 < x) && decide (x < 128)) = true) : ∃ r, bound_split.f s l = some r ∧ r.2.size ≤ 1000 := by
  unfold bound_split.f
  rw [if_pos ⟨by omega, hl, ha⟩]
  refine ⟨_, rfl, ?_⟩
  split
  · simp only [ByteArray.size_extract]; omega
  · exact hs
theorem iparse_some (s : ByteArray) (hs : s.size ≤ 1000) : ints_Parse.f s = some (numOf s) := by
  unfold ints_Parse.f
  rw [if_pos (by omega)]
  rfl
theorem bp_some (s : ByteArray) (hs : s.size ≤ 1000) : bound_Parse.f s = some ((bpP s).1.n, (bpP s).1.out, (bpP s).1.inf, (bpP s).2) := by
  have h : ∃ r, bound_Parse.f s = some r := by
    unfold bound_Parse.f
    split
    · exact ⟨_, rfl⟩
    · split
      · exact ⟨_, rfl⟩
      · split
        · exact ⟨_, rfl⟩
        · obtain ⟨r, h1, h2⟩ := split_some s hs [40] (.inl rfl) rfl
          rw [h1]
          simp only [Option.bind_some]
          rw [iparse_some r.2 h2]
          simp only [Option.bind_some]
          split
          · exact ⟨_, rfl⟩
          · exact ⟨_, rfl⟩
  obtain ⟨⟨n, o, i, e⟩, hr⟩ := h
  unfold bpP
  rw [hr]
theorem ep_some (s : ByteArray) (hs : s.size ≤ 1000) : bound_ParseEdge.f s = some ((epP s).1.s, (epP s).1.out, (epP s).1.inf, (epP s).2) := by
  have h : ∃ r, bound_ParseEdge.f s = some r := by
    unfold bound_ParseEdge.f
    split
    · exact ⟨_, rfl⟩
    · split
      · exact ⟨_, rfl⟩
      · obtain ⟨r, h1, h2⟩ := split_some s hs [91, 40] (.inr rfl) rfl
        rw [h1]
        simp only [Option.bind_some]
        split
        · exact ⟨_, rfl⟩
        · exact ⟨_, rfl⟩
  obtain ⟨⟨n, o, i, e⟩, hr⟩ := h
  unfold epP
  rw [hr]
theorem bparse_calls (s : ByteArray) (hs : s.size ≤ 1000) (w : World) : Calls Tryd.prog 52 #[.string s] w fun e w' => e = .returned (.tuple #[.agg #[.int .i64 (bpP s).1.n, .bool (bpP s).1.out, .int .i64 (bpP s).1.inf], .int .i64 (bpP s).2]) ∧ Below w.heap.size w w' := bound_Parse.calls _ _ _ _ _ _ (bp_some s hs)
theorem bedge_calls (s : ByteArray) (hs : s.size ≤ 1000) (w : World) : Calls Tryd.prog 53 #[.string s] w fun e w' => e = .returned (.tuple #[.agg #[.string (epP s).1.s, .bool (epP s).1.out, .int .i64 (epP s).1.inf], .int .i64 (epP s).2]) ∧ Below w.heap.size w w' := bound_ParseEdge.calls _ _ _ _ _ _ (ep_some s hs)
set_option maxHeartbeats 16000000 in
set_option maxRecDepth 100000 in
theorem places_calls {k x y : ByteArray} {l : List ByteArray} (h : Rd w0 w b c (k :: x :: y :: l)) : Calls Tryd.prog 31 #[.pointer (some ⟨b, 0, none⟩)] w (PostZ w0 w b (placesZ c (k :: x :: y :: l))) := by
  have HS := Lib.hid h
  by_cases hk : k.size ≤ 64
  · rw [show placesZ c (k :: x :: y :: l) = placesZ' (c.addK [k]) (x :: y :: l) from keyZ_ok hk]
    clear h
    cases hx : numA x with
    | none =>
      rw [placesZ_n1 hx]
      go_enter Tryd.func31, Tryd.ntmps31
      go_wp2_with fail
      refine (some1_ok HS.out hk).mono ?_
      rintro e w1 ⟨rfl, h1, f1⟩
      have A1 := Lib.hid (show At w0 w b (c.addK [k]) _ w1 from ⟨h1, f1⟩)
      clear h1 f1
      go_wp2
      go_region_held3 (fun _ => True) (exact trivial) (fail)
      try clear hHeld
      have P2 := Lib.hid ((Blk.new w1 89 #[.pointer (some ⟨b, 21, none⟩), .pointer (some ⟨b, 22, none⟩)]).drew)
      have A2 := Lib.hid ((A1.out.box (.cells #[.pointer (some ⟨b, 21, none⟩), .pointer (some ⟨b, 22, none⟩)] 89)).drew)
      clear A1
      generalize w1.heap.size = pb at P2 ⊢
      generalize World.drew (w1.alloc (.cells #[.pointer (some ⟨b, 21, none⟩), .pointer (some ⟨b, 22, none⟩)] 89)) = w2 at P2 A2 ⊢
      have hne : pb ≠ b := by
        rintro rfl
        obtain ⟨vk, ve, vw, A, n, hB, _⟩ := A2.out.1.ex
        have := P2.out.symm.trans hB
        cases this
      have p0 : w2.cell? ⟨pb, 0, none⟩ = some (.pointer (some ⟨b, 21, none⟩)) := P2.out.cell 0
      go_wp2
      refine wp_loop_rounds 3 ?_
      rw [rounds_succ]
      go_wp2_with fail
      refine (whole_none A2.out.1 hx).mono ?_
      rintro e w3 ⟨rfl, h3⟩
      have A3 := Lib.hid (A2.out.st h3)
      clear h3
      unfold badV
      go_wp2
      go_ret
      exact A3.out.bad (by decide)
    | some n =>
      cases hy : numA y with
      | none =>
        rw [placesZ_n2 hx hy]
        go_enter Tryd.func31, Tryd.ntmps31
        go_wp2_with fail
        refine (some1_ok HS.out hk).mono ?_
        rintro e w1 ⟨rfl, h1, f1⟩
        have A1 := Lib.hid (show At w0 w b (c.addK [k]) _ w1 from ⟨h1, f1⟩)
        clear h1 f1
        go_wp2
        go_region_held3 (fun _ => True) (exact trivial) (fail)
        try clear hHeld
        have P2 := Lib.hid ((Blk.new w1 89 #[.pointer (some ⟨b, 21, none⟩), .pointer (some ⟨b, 22, none⟩)]).drew)
        have A2 := Lib.hid ((A1.out.box (.cells #[.pointer (some ⟨b, 21, none⟩), .pointer (some ⟨b, 22, none⟩)] 89)).drew)
        clear A1
        generalize w1.heap.size = pb at P2 ⊢
        generalize World.drew (w1.alloc (.cells #[.pointer (some ⟨b, 21, none⟩), .pointer (some ⟨b, 22, none⟩)] 89)) = w2 at P2 A2 ⊢
        have hne : pb ≠ b := by
          rintro rfl
          obtain ⟨vk, ve, vw, A, n, hB, _⟩ := A2.out.1.ex
          have := P2.out.symm.trans hB
          cases this
        have p0 : w2.cell? ⟨pb, 0, none⟩ = some (.pointer (some ⟨b, 21, none⟩)) := P2.out.cell 0
        go_wp2
        refine wp_loop_rounds 3 ?_
        rw [rounds_succ]
        go_wp2_with fail
        refine (whole_some A2.out.1 hx).mono ?_
        rintro e w3 ⟨rfl, h3⟩
        have A3 := A2.out.st h3
        have P3 := h3.fr _ _ _ P2.out hne (by decide) (by decide) (by decide)
        have c3 := A3.cell 21 (.int .i64 c.n) (fun _ _ _ _ => rfl)
        have d3 := A3.frozen 21
        have A4 := Lib.hid (A3.put (c' := { (c.addK [k]) with n := n }) 21 (.int .i64 n) rfl rfl rfl (fun _ _ _ _ => rfl))
        have P4 := Lib.hid (P3.other hne 21 (.int .i64 n))
        clear h3 A3 P3 A2 P2 p0
        go_wp2
        rw [rounds_succ]
        clear c3 d3
        generalize w3.setCell ⟨b, 21, none⟩ (.int .i64 n) = w4 at A4 P4 ⊢
        have p1 : w4.cell? ⟨pb, 1, none⟩ = some (.pointer (some ⟨b, 22, none⟩)) := P4.out.cell 1
        go_wp2_with fail
        refine (whole_none A4.out.1 hy).mono ?_
        rintro e w5 ⟨rfl, h5⟩
        have A5 := Lib.hid (A4.out.st h5)
        clear h5
        unfold badV
        go_wp2
        go_ret
        exact A5.out.bad (by decide)
      | some m =>
        rw [placesZ_y hx hy]
        go_enter Tryd.func31, Tryd.ntmps31
        go_wp2_with fail
        refine (some1_ok HS.out hk).mono ?_
        rintro e w1 ⟨rfl, h1, f1⟩
        have A1 := Lib.hid (show At w0 w b (c.addK [k]) _ w1 from ⟨h1, f1⟩)
        clear h1 f1
        go_wp2
        go_region_held3 (fun _ => True) (exact trivial) (fail)
        try clear hHeld
        have P2 := Lib.hid ((Blk.new w1 89 #[.pointer (some ⟨b, 21, none⟩), .pointer (some ⟨b, 22, none⟩)]).drew)
        have A2 := Lib.hid ((A1.out.box (.cells #[.pointer (some ⟨b, 21, none⟩), .pointer (some ⟨b, 22, none⟩)] 89)).drew)
        clear A1
        generalize w1.heap.size = pb at P2 ⊢
        generalize World.drew (w1.alloc (.cells #[.pointer (some ⟨b, 21, none⟩), .pointer (some ⟨b, 22, none⟩)] 89)) = w2 at P2 A2 ⊢
        have hne : pb ≠ b := by
          rintro rfl
          obtain ⟨vk, ve, vw, A, n, hB, _⟩ := A2.out.1.ex
          have := P2.out.symm.trans hB
          cases this
        have p0 : w2.cell? ⟨pb, 0, none⟩ = some (.pointer (some ⟨b, 21, none⟩)) := P2.out.cell 0
        go_wp2
        refine wp_loop_rounds 3 ?_
        rw [rounds_succ]
        go_wp2_with fail
        refine (whole_some A2.out.1 hx).mono ?_
        rintro e w3 ⟨rfl, h3⟩
        have A3 := A2.out.st h3
        have P3 := h3.fr _ _ _ P2.out hne (by decide) (by decide) (by decide)
        have c3 := A3.cell 21 (.int .i64 c.n) (fun _ _ _ _ => rfl)
        have d3 := A3.frozen 21
        have A4 := Lib.hid (A3.put (c' := { (c.addK [k]) with n := n }) 21 (.int .i64 n) rfl rfl rfl (fun _ _ _ _ => rfl))
        have P4 := Lib.hid (P3.other hne 21 (.int .i64 n))
        clear h3 A3 P3 A2 P2 p0
        go_wp2
        rw [rounds_succ]
        clear c3 d3
        generalize w3.setCell ⟨b, 21, none⟩ (.int .i64 n) = w4 at A4 P4 ⊢
        have p1 : w4.cell? ⟨pb, 1, none⟩ = some (.pointer (some ⟨b, 22, none⟩)) := P4.out.cell 1
        go_wp2_with fail
        refine (whole_some A4.out.1 hy).mono ?_
        rintro e w5 ⟨rfl, h5⟩
        have A5 := A4.out.st h5
        have c5 := A5.cell 22 (.int .i64 c.m) (fun _ _ _ _ => rfl)
        have d5 := A5.frozen 22
        have A6 := Lib.hid (A5.put (c' := { (c.addK [k]) with n := n, m := m }) 22 (.int .i64 m) rfl rfl rfl (fun _ _ _ _ => rfl))
        clear h5 A5 A4 P4 p1
        go_wp2
        rw [rounds_succ]
        clear c5 d5
        generalize w5.setCell ⟨b, 22, none⟩ (.int .i64 m) = w6 at A6 ⊢
        have cn := A6.out.cell 0 (.string c.name) (fun _ _ _ _ => rfl)
        have ct := A6.out.cell 26 (.bool c.tu) (fun _ _ _ _ => rfl)
        have ft := A6.out.frozen 26
        have A9 := Lib.hid (A6.out.put (c' := { (c.addK [k]) with n := n, m := m, tu := isRange c.name }) 26 (.bool (c.name.toList == [90, 82, 69, 86, 82, 65, 78, 71, 69])) rfl rfl rfl (fun _ _ _ _ => rfl))
        clear A6
        have HC := Lib.hid (scores_calls A9.out.1)
        go_wp2_with fail
        refine HC.out.mono ?_
        rintro e w10 h10
        obtain ⟨rfl, h3, h4, h5⟩ := h10
        have H10 := Lib.hid (show _ ∧ _ ∧ _ from ⟨h3, A9.out.2.trans h4, h5⟩)
        clear h3 h4 h5 HC
        generalize hv : refV _ = v
        have HV := Lib.hid hv
        clear hv
        go_wp2
        go_ret
        exact ⟨congrArg Ending.returned HV.out.symm, H10.out⟩
  · rw [places_long hk]
    go_enter Tryd.func31, Tryd.ntmps31
    go_wp2_with fail
    refine (some1_no h hk).mono ?_
    rintro e w1 ⟨rfl, h1, f1⟩
    have H1 := Lib.hid (show _ ∧ _ from ⟨h1, f1⟩)
    clear h1 f1
    unfold badV
    go_wp2
    go_ret
    exact postE_bad (by decide) H1.out.1 H1.out.2
def boundsZ' (c : Cm) : List ByteArray → Rz
  | x :: y :: l => if (bpP x).2 = 0 ∧ (bpP y).2 = 0 then scoresZ { c with fr := (bpP x).1, tt := (bpP y).1 } l else bad 174
  | _ => bad 174
def boundsZ (c : Cm) (l : List ByteArray) : Rz := keyZ c boundsZ' l
theorem bounds_long {k : ByteArray} {l : List ByteArray} (hk : ¬ k.size ≤ 64) : boundsZ c (k :: l) = bad 172 := keyZ_no hk
theorem boundsZ_y {x y : ByteArray} {l : List ByteArray} (hx : (bpP x).2 = 0) (hy : (bpP y).2 = 0) : boundsZ' c (x :: y :: l) = scoresZ { c with fr := (bpP x).1, tt := (bpP y).1 } l := if_pos ⟨hx, hy⟩
theorem boundsZ_n {x y : ByteArray} {l : List ByteArray} (h : ¬ ((bpP x).2 = 0 ∧ (bpP y).2 = 0)) : boundsZ' c (x :: y :: l) = bad 174 := if_neg h
set_option maxHeartbeats 16000000 in
set_option maxRecDepth 100000 in
theorem bounds_calls {k x y : ByteArray} {l : List ByteArray} (h : Rd w0 w b c (k :: x :: y :: l)) : Calls Tryd.prog 32 #[.pointer (some ⟨b, 0, none⟩)] w (PostZ w0 w b (boundsZ c (k :: x :: y :: l))) := by
  have HS := Lib.hid h
  by_cases hk : k.size ≤ 64
  · rw [show boundsZ c (k :: x :: y :: l) = boundsZ' (c.addK [k]) (x :: y :: l) from keyZ_ok hk]
    have hcx := bparse_calls x (h.ok x (by simp))
    have hcy := bparse_calls y (h.ok y (by simp))
    clear h
    have hz : boundsZ' (c.addK [k]) (x :: y :: l) = if (bpP x).2 = 0 ∧ (bpP y).2 = 0 then scoresZ { (c.addK [k]) with fr := (bpP x).1, tt := (bpP y).1 } l else bad 174 := rfl
    generalize bpP x = px at hcx hz
    generalize bpP y = py at hcy hz
    obtain ⟨⟨x1, x2, x3⟩, x4⟩ := px
    obtain ⟨⟨y1, y2, y3⟩, y4⟩ := py
    simp only at hcx hcy hz
    rw [hz]
    have HX := Lib.hid hcx
    have HY := Lib.hid hcy
    clear hcx hcy hz
    by_cases hx : x4 = 0
    · subst hx
      by_cases hy : y4 = 0
      · subst hy
        rw [if_pos ⟨rfl, rfl⟩]
        go_enter Tryd.func32, Tryd.ntmps32
        go_wp2_with fail
        refine (some1_ok HS.out hk).mono ?_
        rintro e w1 ⟨rfl, h1, f1⟩
        have A1 := Lib.hid (show At w0 w b (c.addK [k]) _ w1 from ⟨h1, f1⟩)
        clear h1 f1
        go_wp2
        go_region_held3 (fun _ => True) (exact trivial) (fail)
        try clear hHeld
        have P2 := Lib.hid ((Blk.new w1 93 #[.pointer (some ⟨b, 9, none⟩), .pointer (some ⟨b, 12, none⟩)]).drew)
        have A2 := Lib.hid ((A1.out.box (.cells #[.pointer (some ⟨b, 9, none⟩), .pointer (some ⟨b, 12, none⟩)] 93)).drew)
        clear A1
        generalize w1.heap.size = pb at P2 ⊢
        generalize World.drew (w1.alloc (.cells #[.pointer (some ⟨b, 9, none⟩), .pointer (some ⟨b, 12, none⟩)] 93)) = w2 at P2 A2 ⊢
        have hne : pb ≠ b := by
          rintro rfl
          obtain ⟨vk, ve, vw, A, n, hB, _⟩ := A2.out.1.ex
          have := P2.out.symm.trans hB
          cases this
        have p0 : w2.cell? ⟨pb, 0, none⟩ = some (.pointer (some ⟨b, 9, none⟩)) := P2.out.cell 0
        go_wp2
        refine wp_loop_rounds 3 ?_
        rw [rounds_succ]
        go_wp2_with fail
        refine (take_calls A2.out.1).mono ?_
        rintro e w3a ⟨rfl, h3, g3⟩
        have A3 := A2.out.st ⟨h3, g3⟩
        have P3 := (Fr.grown g3) _ _ _ P2.out hne (by decide) (by decide) (by decide)
        have A3 := Lib.hid A3
        have P3 := Lib.hid P3
        clear h3 g3 A2 P2 p0
        go_wp2_with fail
        refine (HX.out _).mono ?_
        rintro e w4a ⟨rfl, b4⟩
        have A4 := (A3.out.below b4).box (.cells #[.int .i64 x1, .bool x2, .int .i64 x3] 29)
        have P4 := (P3.out.below b4).alloc (.cells #[.int .i64 x1, .bool x2, .int .i64 x3] 29)
        have c0 := A4.cell 9 (.int .i64 c.fr.n) (fun _ _ _ _ => rfl)
        have d0 := A4.frozen 9
        have c1 := A4.cell 10 (.bool c.fr.out) (fun _ _ _ _ => rfl)
        have d1 := A4.frozen 10
        have c2 := A4.cell 11 (.int .i64 c.fr.inf) (fun _ _ _ _ => rfl)
        have d2 := A4.frozen 11
        have A5 := Lib.hid (((A4.put (c' := { (c.addK [k]) with fr := { (c.addK [k]).fr with n := x1 } }) 9 (.int .i64 x1) rfl rfl rfl (fun _ _ _ _ => rfl)).put (c' := { (c.addK [k]) with fr := { (c.addK [k]).fr with n := x1, out := x2 } }) 10 (.bool x2) rfl rfl rfl (fun _ _ _ _ => rfl)).put (c' := { (c.addK [k]) with fr := { (c.addK [k]).fr with n := x1, out := x2, inf := x3 } }) 11 (.int .i64 x3) rfl rfl rfl (fun _ _ _ _ => rfl))
        have P5 := Lib.hid (((P4.other hne 9 (.int .i64 x1)).other hne 10 (.bool x2)).other hne 11 (.int .i64 x3))
        clear b4 A3 A4 P3 P4
        go_wp2
        rw [rounds_succ]
        clear c0 c1 c2 d0 d1 d2
        generalize ((((w4a.alloc (.cells #[.int .i64 x1, .bool x2, .int .i64 x3] 29)).setCell ⟨b, 9, none⟩ (.int .i64 x1)).setCell ⟨b, 10, none⟩ (.bool x2)).setCell ⟨b, 11, none⟩ (.int .i64 x3)) = w5a at A5 P5 ⊢
        have p1 : w5a.cell? ⟨pb, 1, none⟩ = some (.pointer (some ⟨b, 12, none⟩)) := P5.out.cell 1
        go_wp2_with fail
        refine (take_calls A5.out.1).mono ?_
        rintro e w3b ⟨rfl, h3, g3⟩
        have A3 := A5.out.st ⟨h3, g3⟩
        have P3 := (Fr.grown g3) _ _ _ P5.out hne (by decide) (by decide) (by decide)
        have A3 := Lib.hid A3
        have P3 := Lib.hid P3
        clear h3 g3 A5 P5 p1
        go_wp2_with fail
        refine (HY.out _).mono ?_
        rintro e w4b ⟨rfl, b4⟩
        have A4 := (A3.out.below b4).box (.cells #[.int .i64 y1, .bool y2, .int .i64 y3] 29)
        have P4 := (P3.out.below b4).alloc (.cells #[.int .i64 y1, .bool y2, .int .i64 y3] 29)
        have c0 := A4.cell 12 (.int .i64 c.tt.n) (fun _ _ _ _ => rfl)
        have d0 := A4.frozen 12
        have c1 := A4.cell 13 (.bool c.tt.out) (fun _ _ _ _ => rfl)
        have d1 := A4.frozen 13
        have c2 := A4.cell 14 (.int .i64 c.tt.inf) (fun _ _ _ _ => rfl)
        have d2 := A4.frozen 14
        have A5 := Lib.hid (((A4.put (c' := { ({ (c.addK [k]) with fr := ⟨x1, x2, x3⟩ } : Cm) with tt := { ({ (c.addK [k]) with fr := ⟨x1, x2, x3⟩ } : Cm).tt with n := y1 } }) 12 (.int .i64 y1) rfl rfl rfl (fun _ _ _ _ => rfl)).put (c' := { ({ (c.addK [k]) with fr := ⟨x1, x2, x3⟩ } : Cm) with tt := { ({ (c.addK [k]) with fr := ⟨x1, x2, x3⟩ } : Cm).tt with n := y1, out := y2 } }) 13 (.bool y2) rfl rfl rfl (fun _ _ _ _ => rfl)).put (c' := { ({ (c.addK [k]) with fr := ⟨x1, x2, x3⟩ } : Cm) with tt := { ({ (c.addK [k]) with fr := ⟨x1, x2, x3⟩ } : Cm).tt with n := y1, out := y2, inf := y3 } }) 14 (.int .i64 y3) rfl rfl rfl (fun _ _ _ _ => rfl))
        have P5 := Lib.hid (((P4.other hne 12 (.int .i64 y1)).other hne 13 (.bool y2)).other hne 14 (.int .i64 y3))
        clear b4 A3 A4 P3 P4
        go_wp2
        rw [rounds_succ]
        clear c0 c1 c2 d0 d1 d2
        generalize ((((w4b.alloc (.cells #[.int .i64 y1, .bool y2, .int .i64 y3] 29)).setCell ⟨b, 12, none⟩ (.int .i64 y1)).setCell ⟨b, 13, none⟩ (.bool y2)).setCell ⟨b, 14, none⟩ (.int .i64 y3)) = w5b at A5 P5 ⊢
        have A9 := A5
        clear P5
        have HC := Lib.hid (scores_calls A9.out.1)
        go_wp2_with fail
        refine HC.out.mono ?_
        rintro e w10 h10
        obtain ⟨rfl, h3, h4, h5⟩ := h10
        have H10 := Lib.hid (show _ ∧ _ ∧ _ from ⟨h3, A9.out.2.trans h4, h5⟩)
        clear h3 h4 h5 HC
        generalize hv : refV _ = v
        have HV := Lib.hid hv
        clear hv
        go_wp2
        go_ret
        exact ⟨congrArg Ending.returned HV.out.symm, H10.out⟩
      · rw [if_neg (by simp [hy])]
        have hyb : (y4 != 0) = true := by simpa using hy
        clear hy
        go_enter Tryd.func32, Tryd.ntmps32
        go_wp2_with fail
        refine (some1_ok HS.out hk).mono ?_
        rintro e w1 ⟨rfl, h1, f1⟩
        have A1 := Lib.hid (show At w0 w b (c.addK [k]) _ w1 from ⟨h1, f1⟩)
        clear h1 f1
        go_wp2
        go_region_held3 (fun _ => True) (exact trivial) (fail)
        try clear hHeld
        have P2 := Lib.hid ((Blk.new w1 93 #[.pointer (some ⟨b, 9, none⟩), .pointer (some ⟨b, 12, none⟩)]).drew)
        have A2 := Lib.hid ((A1.out.box (.cells #[.pointer (some ⟨b, 9, none⟩), .pointer (some ⟨b, 12, none⟩)] 93)).drew)
        clear A1
        generalize w1.heap.size = pb at P2 ⊢
        generalize World.drew (w1.alloc (.cells #[.pointer (some ⟨b, 9, none⟩), .pointer (some ⟨b, 12, none⟩)] 93)) = w2 at P2 A2 ⊢
        have hne : pb ≠ b := by
          rintro rfl
          obtain ⟨vk, ve, vw, A, n, hB, _⟩ := A2.out.1.ex
          have := P2.out.symm.trans hB
          cases this
        have p0 : w2.cell? ⟨pb, 0, none⟩ = some (.pointer (some ⟨b, 9, none⟩)) := P2.out.cell 0
        go_wp2
        refine wp_loop_rounds 3 ?_
        rw [rounds_succ]
        go_wp2_with fail
        refine (take_calls A2.out.1).mono ?_
        rintro e w3a ⟨rfl, h3, g3⟩
        have A3 := A2.out.st ⟨h3, g3⟩
        have P3 := (Fr.grown g3) _ _ _ P2.out hne (by decide) (by decide) (by decide)
        have A3 := Lib.hid A3
        have P3 := Lib.hid P3
        clear h3 g3 A2 P2 p0
        go_wp2_with fail
        refine (HX.out _).mono ?_
        rintro e w4a ⟨rfl, b4⟩
        have A4 := (A3.out.below b4).box (.cells #[.int .i64 x1, .bool x2, .int .i64 x3] 29)
        have P4 := (P3.out.below b4).alloc (.cells #[.int .i64 x1, .bool x2, .int .i64 x3] 29)
        have c0 := A4.cell 9 (.int .i64 c.fr.n) (fun _ _ _ _ => rfl)
        have d0 := A4.frozen 9
        have c1 := A4.cell 10 (.bool c.fr.out) (fun _ _ _ _ => rfl)
        have d1 := A4.frozen 10
        have c2 := A4.cell 11 (.int .i64 c.fr.inf) (fun _ _ _ _ => rfl)
        have d2 := A4.frozen 11
        have A5 := Lib.hid (((A4.put (c' := { (c.addK [k]) with fr := { (c.addK [k]).fr with n := x1 } }) 9 (.int .i64 x1) rfl rfl rfl (fun _ _ _ _ => rfl)).put (c' := { (c.addK [k]) with fr := { (c.addK [k]).fr with n := x1, out := x2 } }) 10 (.bool x2) rfl rfl rfl (fun _ _ _ _ => rfl)).put (c' := { (c.addK [k]) with fr := { (c.addK [k]).fr with n := x1, out := x2, inf := x3 } }) 11 (.int .i64 x3) rfl rfl rfl (fun _ _ _ _ => rfl))
        have P5 := Lib.hid (((P4.other hne 9 (.int .i64 x1)).other hne 10 (.bool x2)).other hne 11 (.int .i64 x3))
        clear b4 A3 A4 P3 P4
        go_wp2
        rw [rounds_succ]
        clear c0 c1 c2 d0 d1 d2
        generalize ((((w4a.alloc (.cells #[.int .i64 x1, .bool x2, .int .i64 x3] 29)).setCell ⟨b, 9, none⟩ (.int .i64 x1)).setCell ⟨b, 10, none⟩ (.bool x2)).setCell ⟨b, 11, none⟩ (.int .i64 x3)) = w5a at A5 P5 ⊢
        have p1 : w5a.cell? ⟨pb, 1, none⟩ = some (.pointer (some ⟨b, 12, none⟩)) := P5.out.cell 1
        go_wp2_with fail
        refine (take_calls A5.out.1).mono ?_
        rintro e w3 ⟨rfl, h3, g3⟩
        have A3 := Lib.hid (A5.out.st ⟨h3, g3⟩)
        clear h3 g3
        go_wp2_with fail
        refine (HY.out _).mono ?_
        rintro e w4 ⟨rfl, b4⟩
        have A4 := Lib.hid (A3.out.below b4)
        clear b4 A3
        go_wp2_with fail
        refine (first_calls 174 (by decide) _ _ (by rw [World.cell?_alloc_at _ _ _ _ (by simp)]; rfl)).mono ?_
        rintro e w8 ⟨rfl, rfl⟩
        rw [show refV 174 = .iface 74 (.agg #[.int .i64 174]) from rfl]
        go_wp2
        go_ret
        exact ((A4.out.box _).box _).bad (by decide)
    · rw [if_neg (by simp [hx])]
      have hxb : (x4 != 0) = true := by simpa using hx
      clear hx
      go_enter Tryd.func32, Tryd.ntmps32
      go_wp2_with fail
      refine (some1_ok HS.out hk).mono ?_
      rintro e w1 ⟨rfl, h1, f1⟩
      have A1 := Lib.hid (show At w0 w b (c.addK [k]) _ w1 from ⟨h1, f1⟩)
      clear h1 f1
      go_wp2
      go_region_held3 (fun _ => True) (exact trivial) (fail)
      try clear hHeld
      have P2 := Lib.hid ((Blk.new w1 93 #[.pointer (some ⟨b, 9, none⟩), .pointer (some ⟨b, 12, none⟩)]).drew)
      have A2 := Lib.hid ((A1.out.box (.cells #[.pointer (some ⟨b, 9, none⟩), .pointer (some ⟨b, 12, none⟩)] 93)).drew)
      clear A1
      generalize w1.heap.size = pb at P2 ⊢
      generalize World.drew (w1.alloc (.cells #[.pointer (some ⟨b, 9, none⟩), .pointer (some ⟨b, 12, none⟩)] 93)) = w2 at P2 A2 ⊢
      have hne : pb ≠ b := by
        rintro rfl
        obtain ⟨vk, ve, vw, A, n, hB, _⟩ := A2.out.1.ex
        have := P2.out.symm.trans hB
        cases this
      have p0 : w2.cell? ⟨pb, 0, none⟩ = some (.pointer (some ⟨b, 9, none⟩)) := P2.out.cell 0
      go_wp2
      refine wp_loop_rounds 3 ?_
      rw [rounds_succ]
      go_wp2_with fail
      refine (take_calls A2.out.1).mono ?_
      rintro e w3 ⟨rfl, h3, g3⟩
      have A3 := Lib.hid (A2.out.st ⟨h3, g3⟩)
      clear h3 g3
      go_wp2_with fail
      refine (HX.out _).mono ?_
      rintro e w4 ⟨rfl, b4⟩
      have A4 := Lib.hid (A3.out.below b4)
      clear b4 A3
      go_wp2_with fail
      refine (first_calls 174 (by decide) _ _ (by rw [World.cell?_alloc_at _ _ _ _ (by simp)]; rfl)).mono ?_
      rintro e w8 ⟨rfl, rfl⟩
      rw [show refV 174 = .iface 74 (.agg #[.int .i64 174]) from rfl]
      go_wp2
      go_ret
      exact ((A4.out.box _).box _).bad (by decide)
  · rw [bounds_long hk]
    go_enter Tryd.func32, Tryd.ntmps32
    go_wp2_with fail
    refine (some1_no h hk).mono ?_
    rintro e w1 ⟨rfl, h1, f1⟩
    have H1 := Lib.hid (show _ ∧ _ from ⟨h1, f1⟩)
    clear h1 f1
    unfold badV
    go_wp2
    go_ret
    exact postE_bad (by decide) H1.out.1 H1.out.2
def edgesZ' (c : Cm) : List ByteArray → Rz
  | x :: y :: l => if (epP x).2 = 0 ∧ (epP y).2 = 0 then (0, { c with lo := (epP x).1, hi := (epP y).1 }, l) else bad 174
  | _ => bad 174
def edgesZ (c : Cm) (l : List ByteArray) : Rz := keyZ c edgesZ' l
theorem edges_long {k : ByteArray} {l : List ByteArray} (hk : ¬ k.size ≤ 64) : edgesZ c (k :: l) = bad 172 := keyZ_no hk
theorem edgesZ_y {x y : ByteArray} {l : List ByteArray} (hx : (epP x).2 = 0) (hy : (epP y).2 = 0) : edgesZ' c (x :: y :: l) = (0, { c with lo := (epP x).1, hi := (epP y).1 }, l) := if_pos ⟨hx, hy⟩
theorem edgesZ_n {x y : ByteArray} {l : List ByteArray} (h : ¬ ((epP x).2 = 0 ∧ (epP y).2 = 0)) : edgesZ' c (x :: y :: l) = bad 174 := if_neg h
set_option maxHeartbeats 16000000 in
set_option maxRecDepth 100000 in
theorem edges_calls {k x y : ByteArray} {l : List ByteArray} (h : Rd w0 w b c (k :: x :: y :: l)) : Calls Tryd.prog 33 #[.pointer (some ⟨b, 0, none⟩)] w (PostZ w0 w b (edgesZ c (k :: x :: y :: l))) := by
  have HS := Lib.hid h
  by_cases hk : k.size ≤ 64
  · rw [show edgesZ c (k :: x :: y :: l) = edgesZ' (c.addK [k]) (x :: y :: l) from keyZ_ok hk]
    have hcx := bedge_calls x (h.ok x (by simp))
    have hcy := bedge_calls y (h.ok y (by simp))
    clear h
    have hz : edgesZ' (c.addK [k]) (x :: y :: l) = if (epP x).2 = 0 ∧ (epP y).2 = 0 then (0, { (c.addK [k]) with lo := (epP x).1, hi := (epP y).1 }, l) else bad 174 := rfl
    generalize epP x = px at hcx hz
    generalize epP y = py at hcy hz
    obtain ⟨⟨x1, x2, x3⟩, x4⟩ := px
    obtain ⟨⟨y1, y2, y3⟩, y4⟩ := py
    simp only at hcx hcy hz
    rw [hz]
    have HX := Lib.hid hcx
    have HY := Lib.hid hcy
    clear hcx hcy hz
    by_cases hx : x4 = 0
    · subst hx
      by_cases hy : y4 = 0
      · subst hy
        rw [if_pos ⟨rfl, rfl⟩]
        go_enter Tryd.func33, Tryd.ntmps33
        go_wp2_with fail
        refine (some1_ok HS.out hk).mono ?_
        rintro e w1 ⟨rfl, h1, f1⟩
        have A1 := Lib.hid (show At w0 w b (c.addK [k]) _ w1 from ⟨h1, f1⟩)
        clear h1 f1
        go_wp2
        go_region_held3 (fun _ => True) (exact trivial) (fail)
        try clear hHeld
        have P2 := Lib.hid ((Blk.new w1 97 #[.pointer (some ⟨b, 15, none⟩), .pointer (some ⟨b, 18, none⟩)]).drew)
        have A2 := Lib.hid ((A1.out.box (.cells #[.pointer (some ⟨b, 15, none⟩), .pointer (some ⟨b, 18, none⟩)] 97)).drew)
        clear A1
        generalize w1.heap.size = pb at P2 ⊢
        generalize World.drew (w1.alloc (.cells #[.pointer (some ⟨b, 15, none⟩), .pointer (some ⟨b, 18, none⟩)] 97)) = w2 at P2 A2 ⊢
        have hne : pb ≠ b := by
          rintro rfl
          obtain ⟨vk, ve, vw, A, n, hB, _⟩ := A2.out.1.ex
          have := P2.out.symm.trans hB
          cases this
        have p0 : w2.cell? ⟨pb, 0, none⟩ = some (.pointer (some ⟨b, 15, none⟩)) := P2.out.cell 0
        go_wp2
        refine wp_loop_rounds 3 ?_
        rw [rounds_succ]
        go_wp2_with fail
        refine (take_calls A2.out.1).mono ?_
        rintro e w3a ⟨rfl, h3, g3⟩
        have A3 := A2.out.st ⟨h3, g3⟩
        have P3 := (Fr.grown g3) _ _ _ P2.out hne (by decide) (by decide) (by decide)
        have A3 := Lib.hid A3
        have P3 := Lib.hid P3
        clear h3 g3 A2 P2 p0
        go_wp2_with fail
        refine (HX.out _).mono ?_
        rintro e w4a ⟨rfl, b4⟩
        have A4 := (A3.out.below b4).box (.cells #[.string x1, .bool x2, .int .i64 x3] 31)
        have P4 := (P3.out.below b4).alloc (.cells #[.string x1, .bool x2, .int .i64 x3] 31)
        have c0 := A4.cell 15 (.string c.lo.s) (fun _ _ _ _ => rfl)
        have d0 := A4.frozen 15
        have c1 := A4.cell 16 (.bool c.lo.out) (fun _ _ _ _ => rfl)
        have d1 := A4.frozen 16
        have c2 := A4.cell 17 (.int .i64 c.lo.inf) (fun _ _ _ _ => rfl)
        have d2 := A4.frozen 17
        have A5 := Lib.hid (((A4.put (c' := { (c.addK [k]) with lo := { (c.addK [k]).lo with s := x1 } }) 15 (.string x1) rfl rfl rfl (fun _ _ _ _ => rfl)).put (c' := { (c.addK [k]) with lo := { (c.addK [k]).lo with s := x1, out := x2 } }) 16 (.bool x2) rfl rfl rfl (fun _ _ _ _ => rfl)).put (c' := { (c.addK [k]) with lo := { (c.addK [k]).lo with s := x1, out := x2, inf := x3 } }) 17 (.int .i64 x3) rfl rfl rfl (fun _ _ _ _ => rfl))
        have P5 := Lib.hid (((P4.other hne 15 (.string x1)).other hne 16 (.bool x2)).other hne 17 (.int .i64 x3))
        clear b4 A3 A4 P3 P4
        go_wp2
        rw [rounds_succ]
        clear c0 c1 c2 d0 d1 d2
        generalize ((((w4a.alloc (.cells #[.string x1, .bool x2, .int .i64 x3] 31)).setCell ⟨b, 15, none⟩ (.string x1)).setCell ⟨b, 16, none⟩ (.bool x2)).setCell ⟨b, 17, none⟩ (.int .i64 x3)) = w5a at A5 P5 ⊢
        have p1 : w5a.cell? ⟨pb, 1, none⟩ = some (.pointer (some ⟨b, 18, none⟩)) := P5.out.cell 1
        go_wp2_with fail
        refine (take_calls A5.out.1).mono ?_
        rintro e w3b ⟨rfl, h3, g3⟩
        have A3 := A5.out.st ⟨h3, g3⟩
        have P3 := (Fr.grown g3) _ _ _ P5.out hne (by decide) (by decide) (by decide)
        have A3 := Lib.hid A3
        have P3 := Lib.hid P3
        clear h3 g3 A5 P5 p1
        go_wp2_with fail
        refine (HY.out _).mono ?_
        rintro e w4b ⟨rfl, b4⟩
        have A4 := (A3.out.below b4).box (.cells #[.string y1, .bool y2, .int .i64 y3] 31)
        have P4 := (P3.out.below b4).alloc (.cells #[.string y1, .bool y2, .int .i64 y3] 31)
        have c0 := A4.cell 18 (.string c.hi.s) (fun _ _ _ _ => rfl)
        have d0 := A4.frozen 18
        have c1 := A4.cell 19 (.bool c.hi.out) (fun _ _ _ _ => rfl)
        have d1 := A4.frozen 19
        have c2 := A4.cell 20 (.int .i64 c.hi.inf) (fun _ _ _ _ => rfl)
        have d2 := A4.frozen 20
        have A5 := Lib.hid (((A4.put (c' := { ({ (c.addK [k]) with lo := ⟨x1, x2, x3⟩ } : Cm) with hi := { ({ (c.addK [k]) with lo := ⟨x1, x2, x3⟩ } : Cm).hi with s := y1 } }) 18 (.string y1) rfl rfl rfl (fun _ _ _ _ => rfl)).put (c' := { ({ (c.addK [k]) with lo := ⟨x1, x2, x3⟩ } : Cm) with hi := { ({ (c.addK [k]) with lo := ⟨x1, x2, x3⟩ } : Cm).hi with s := y1, out := y2 } }) 19 (.bool y2) rfl rfl rfl (fun _ _ _ _ => rfl)).put (c' := { ({ (c.addK [k]) with lo := ⟨x1, x2, x3⟩ } : Cm) with hi := { ({ (c.addK [k]) with lo := ⟨x1, x2, x3⟩ } : Cm).hi with s := y1, out := y2, inf := y3 } }) 20 (.int .i64 y3) rfl rfl rfl (fun _ _ _ _ => rfl))
        have P5 := Lib.hid (((P4.other hne 18 (.string y1)).other hne 19 (.bool y2)).other hne 20 (.int .i64 y3))
        clear b4 A3 A4 P3 P4
        go_wp2
        rw [rounds_succ]
        clear c0 c1 c2 d0 d1 d2
        generalize ((((w4b.alloc (.cells #[.string y1, .bool y2, .int .i64 y3] 31)).setCell ⟨b, 18, none⟩ (.string y1)).setCell ⟨b, 19, none⟩ (.bool y2)).setCell ⟨b, 20, none⟩ (.int .i64 y3)) = w5b at A5 P5 ⊢
        go_wp2
        go_ret
        exact A5.out.ok
      · rw [if_neg (by simp [hy])]
        have hyb : (y4 != 0) = true := by simpa using hy
        clear hy
        go_enter Tryd.func33, Tryd.ntmps33
        go_wp2_with fail
        refine (some1_ok HS.out hk).mono ?_
        rintro e w1 ⟨rfl, h1, f1⟩
        have A1 := Lib.hid (show At w0 w b (c.addK [k]) _ w1 from ⟨h1, f1⟩)
        clear h1 f1
        go_wp2
        go_region_held3 (fun _ => True) (exact trivial) (fail)
        try clear hHeld
        have P2 := Lib.hid ((Blk.new w1 97 #[.pointer (some ⟨b, 15, none⟩), .pointer (some ⟨b, 18, none⟩)]).drew)
        have A2 := Lib.hid ((A1.out.box (.cells #[.pointer (some ⟨b, 15, none⟩), .pointer (some ⟨b, 18, none⟩)] 97)).drew)
        clear A1
        generalize w1.heap.size = pb at P2 ⊢
        generalize World.drew (w1.alloc (.cells #[.pointer (some ⟨b, 15, none⟩), .pointer (some ⟨b, 18, none⟩)] 97)) = w2 at P2 A2 ⊢
        have hne : pb ≠ b := by
          rintro rfl
          obtain ⟨vk, ve, vw, A, n, hB, _⟩ := A2.out.1.ex
          have := P2.out.symm.trans hB
          cases this
        have p0 : w2.cell? ⟨pb, 0, none⟩ = some (.pointer (some ⟨b, 15, none⟩)) := P2.out.cell 0
        go_wp2
        refine wp_loop_rounds 3 ?_
        rw [rounds_succ]
        go_wp2_with fail
        refine (take_calls A2.out.1).mono ?_
        rintro e w3a ⟨rfl, h3, g3⟩
        have A3 := A2.out.st ⟨h3, g3⟩
        have P3 := (Fr.grown g3) _ _ _ P2.out hne (by decide) (by decide) (by decide)
        have A3 := Lib.hid A3
        have P3 := Lib.hid P3
        clear h3 g3 A2 P2 p0
        go_wp2_with fail
        refine (HX.out _).mono ?_
        rintro e w4a ⟨rfl, b4⟩
        have A4 := (A3.out.below b4).box (.cells #[.string x1, .bool x2, .int .i64 x3] 31)
        have P4 := (P3.out.below b4).alloc (.cells #[.string x1, .bool x2, .int .i64 x3] 31)
        have c0 := A4.cell 15 (.string c.lo.s) (fun _ _ _ _ => rfl)
        have d0 := A4.frozen 15
        have c1 := A4.cell 16 (.bool c.lo.out) (fun _ _ _ _ => rfl)
        have d1 := A4.frozen 16
        have c2 := A4.cell 17 (.int .i64 c.lo.inf) (fun _ _ _ _ => rfl)
        have d2 := A4.frozen 17
        have A5 := Lib.hid (((A4.put (c' := { (c.addK [k]) with lo := { (c.addK [k]).lo with s := x1 } }) 15 (.string x1) rfl rfl rfl (fun _ _ _ _ => rfl)).put (c' := { (c.addK [k]) with lo := { (c.addK [k]).lo with s := x1, out := x2 } }) 16 (.bool x2) rfl rfl rfl (fun _ _ _ _ => rfl)).put (c' := { (c.addK [k]) with lo := { (c.addK [k]).lo with s := x1, out := x2, inf := x3 } }) 17 (.int .i64 x3) rfl rfl rfl (fun _ _ _ _ => rfl))
        have P5 := Lib.hid (((P4.other hne 15 (.string x1)).other hne 16 (.bool x2)).other hne 17 (.int .i64 x3))
        clear b4 A3 A4 P3 P4
        go_wp2
        rw [rounds_succ]
        clear c0 c1 c2 d0 d1 d2
        generalize ((((w4a.alloc (.cells #[.string x1, .bool x2, .int .i64 x3] 31)).setCell ⟨b, 15, none⟩ (.string x1)).setCell ⟨b, 16, none⟩ (.bool x2)).setCell ⟨b, 17, none⟩ (.int .i64 x3)) = w5a at A5 P5 ⊢
        have p1 : w5a.cell? ⟨pb, 1, none⟩ = some (.pointer (some ⟨b, 18, none⟩)) := P5.out.cell 1
        go_wp2_with fail
        refine (take_calls A5.out.1).mono ?_
        rintro e w3 ⟨rfl, h3, g3⟩
        have A3 := Lib.hid (A5.out.st ⟨h3, g3⟩)
        clear h3 g3
        go_wp2_with fail
        refine (HY.out _).mono ?_
        rintro e w4 ⟨rfl, b4⟩
        have A4 := Lib.hid (A3.out.below b4)
        clear b4 A3
        go_wp2_with fail
        refine (first_calls 174 (by decide) _ _ (by rw [World.cell?_alloc_at _ _ _ _ (by simp)]; rfl)).mono ?_
        rintro e w8 ⟨rfl, rfl⟩
        rw [show refV 174 = .iface 74 (.agg #[.int .i64 174]) from rfl]
        go_wp2
        go_ret
        exact ((A4.out.box _).box _).bad (by decide)
    · rw [if_neg (by simp [hx])]
      have hxb : (x4 != 0) = true := by simpa using hx
      clear hx
      go_enter Tryd.func33, Tryd.ntmps33
      go_wp2_with fail
      refine (some1_ok HS.out hk).mono ?_
      rintro e w1 ⟨rfl, h1, f1⟩
      have A1 := Lib.hid (show At w0 w b (c.addK [k]) _ w1 from ⟨h1, f1⟩)
      clear h1 f1
      go_wp2
      go_region_held3 (fun _ => True) (exact trivial) (fail)
      try clear hHeld
      have P2 := Lib.hid ((Blk.new w1 97 #[.pointer (some ⟨b, 15, none⟩), .pointer (some ⟨b, 18, none⟩)]).drew)
      have A2 := Lib.hid ((A1.out.box (.cells #[.pointer (some ⟨b, 15, none⟩), .pointer (some ⟨b, 18, none⟩)] 97)).drew)
      clear A1
      generalize w1.heap.size = pb at P2 ⊢
      generalize World.drew (w1.alloc (.cells #[.pointer (some ⟨b, 15, none⟩), .pointer (some ⟨b, 18, none⟩)] 97)) = w2 at P2 A2 ⊢
      have hne : pb ≠ b := by
        rintro rfl
        obtain ⟨vk, ve, vw, A, n, hB, _⟩ := A2.out.1.ex
        have := P2.out.symm.trans hB
        cases this
      have p0 : w2.cell? ⟨pb, 0, none⟩ = some (.pointer (some ⟨b, 15, none⟩)) := P2.out.cell 0
      go_wp2
      refine wp_loop_rounds 3 ?_
      rw [rounds_succ]
      go_wp2_with fail
      refine (take_calls A2.out.1).mono ?_
      rintro e w3 ⟨rfl, h3, g3⟩
      have A3 := Lib.hid (A2.out.st ⟨h3, g3⟩)
      clear h3 g3
      go_wp2_with fail
      refine (HX.out _).mono ?_
      rintro e w4 ⟨rfl, b4⟩
      have A4 := Lib.hid (A3.out.below b4)
      clear b4 A3
      go_wp2_with fail
      refine (first_calls 174 (by decide) _ _ (by rw [World.cell?_alloc_at _ _ _ _ (by simp)]; rfl)).mono ?_
      rintro e w8 ⟨rfl, rfl⟩
      rw [show refV 174 = .iface 74 (.agg #[.int .i64 174]) from rfl]
      go_wp2
      go_ret
      exact ((A4.out.box _).box _).bad (by decide)
  · rw [edges_long hk]
    go_enter Tryd.func33, Tryd.ntmps33
    go_wp2_with fail
    refine (some1_no h hk).mono ?_
    rintro e w1 ⟨rfl, h1, f1⟩
    have H1 := Lib.hid (show _ ∧ _ from ⟨h1, f1⟩)
    clear h1 f1
    unfold badV
    go_wp2
    go_ret
    exact postE_bad (by decide) H1.out.1 H1.out.2
end
end Go.Proofs.YtegmbgjolnbgpaaDoor.P
