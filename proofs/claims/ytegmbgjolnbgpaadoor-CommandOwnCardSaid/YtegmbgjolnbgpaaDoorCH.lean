/- The reader's methods that take a key and then a cursor, a pair, a number. Conditions: each theorem names its own. -/
import Derived.Test.YtegmbgjolnbgpaaDoorCG
namespace Go.Proofs.YtegmbgjolnbgpaaDoor.P
open Go.RowKit Go.Shelf Go.Proofs.YtegmbgjolnbgpaaDoorW.PrintWords Go.Proofs.YtegmbgjolnbgpaaDoorW.PrintLast Go.Proofs.YtegmbgjolnbgpaaDoorW.PrintMore
attribute [local go_sem] Oper.semAt_some

section
variable {w0 w : World} {b : Nat} {c : Cm}
/-- Behind a key. -/
def keyZ (c : Cm) (f : Cm → List ByteArray → Rz) : List ByteArray → Rz
  | [] => bad 172
  | k :: l => if k.size ≤ 64 then f (c.addK [k]) l else bad 172
theorem keyZ_ok {f : Cm → List ByteArray → Rz} {k : ByteArray} {l : List ByteArray} (hk : k.size ≤ 64) : keyZ c f (k :: l) = f (c.addK [k]) l := if_pos hk
theorem keyZ_no {f : Cm → List ByteArray → Rz} {k : ByteArray} {l : List ByteArray} (hk : ¬ k.size ≤ 64) : keyZ c f (k :: l) = bad 172 := if_neg hk
def zscanZ (c : Cm) (l : List ByteArray) : Rz := keyZ c scanZ l
theorem zscan_long {k : ByteArray} {l : List ByteArray} (hk : ¬ k.size ≤ 64) : zscanZ c (k :: l) = bad 172 := keyZ_no hk
set_option maxHeartbeats 2000000 in
set_option maxRecDepth 100000 in
theorem zscan_calls {k s : ByteArray} {l : List ByteArray} (h : Rd w0 w b c (k :: s :: l)) : Calls Tryd.prog 37 #[.pointer (some ⟨b, 0, none⟩)] w (PostZ w0 w b (zscanZ c (k :: s :: l))) := by
  have HS := Lib.hid h
  by_cases hk : k.size ≤ 64
  · rw [show zscanZ c (k :: s :: l) = scanZ (c.addK [k]) (s :: l) from keyZ_ok hk]
    clear h
    go_enter Tryd.func37, Tryd.ntmps37
    go_wp2_with fail
    refine (some1_ok HS.out hk).mono ?_
    rintro e w1 ⟨rfl, h1, f1⟩
    have A1 := Lib.hid (show At w0 w b (c.addK [k]) _ w1 from ⟨h1, f1⟩)
    clear h1 f1
    have HC := Lib.hid (scan_calls A1.out.1)
    go_wp2_with fail
    refine HC.out.mono ?_
    rintro e w2 h2
    obtain ⟨rfl, h3, h4, h5⟩ := h2
    have H2 := Lib.hid (show _ ∧ _ ∧ _ from ⟨h3, A1.out.2.trans h4, h5⟩)
    clear h3 h4 h5 HC
    generalize hv : refV _ = v
    have HV := Lib.hid hv
    clear hv
    go_wp2
    go_ret
    exact ⟨by rw [HV.out]; rfl, H2.out⟩
  · rw [zscan_long hk]
    go_enter Tryd.func37, Tryd.ntmps37
    go_wp2_with fail
    refine (some1_no h hk).mono ?_
    rintro e w1 ⟨rfl, h1, f1⟩
    have H1 := Lib.hid (show _ ∧ _ from ⟨h1, f1⟩)
    clear h1 f1
    unfold badV
    go_wp2
    go_ret
    exact postE_bad (by decide) H1.out.1 H1.out.2
def wEnc : ByteArray := ⟨#[69, 78, 67, 79, 68, 73, 78, 71]⟩
def objectZ (c : Cm) (l : List ByteArray) : Rz := if (isW wEnc l).1 = true then keysZ c (isW wEnc l).2 else bad 172
set_option maxHeartbeats 2000000 in
set_option maxRecDepth 100000 in
theorem object_calls {l : List ByteArray} (h : Rd w0 w b c l) : Calls Tryd.prog 27 #[.pointer (some ⟨b, 0, none⟩)] w (PostZ w0 w b (objectZ c l)) := by
  have HB := Lib.hid ((At.start h).box (.cells #[.string wEnc] 9))
  clear h
  by_cases hy : (isW wEnc l).1 = true
  · rw [show objectZ c l = keysZ c (isW wEnc l).2 from if_pos hy]
    go_enter Tryd.func27, Tryd.ntmps27
    go_wp2_with fail
    refine (isWord_yes HB.out.1 wEnc _ (by rw [World.cell?_alloc_at _ _ _ _ (by simp)]; rfl) hy).mono ?_
    rintro e w1 ⟨rfl, h1⟩
    have A1 := Lib.hid (HB.out.st h1)
    have HC := Lib.hid (keys_calls h1.1)
    clear h1 hy
    go_wp2_with fail
    refine HC.out.mono ?_
    rintro e w2 h2
    obtain ⟨rfl, h3, h4, h5⟩ := h2
    have H2 := Lib.hid (show _ ∧ _ ∧ _ from ⟨h3, A1.out.2.trans h4, h5⟩)
    clear h3 h4 h5 HC
    generalize hv : refV _ = v
    have HV := Lib.hid hv
    clear hv
    go_wp2
    go_ret
    exact ⟨by rw [HV.out]; rfl, H2.out⟩
  · rw [show objectZ c l = bad 172 from if_neg hy]
    have hy : (isW wEnc l).1 = false := by simpa using hy
    go_enter Tryd.func27, Tryd.ntmps27
    go_wp2_with fail
    refine (isWord_no HB.out.1 wEnc _ (by rw [World.cell?_alloc_at _ _ _ _ (by simp)]; rfl) hy).mono ?_
    rintro e w1 ⟨rfl, h1⟩
    have A1 := Lib.hid (HB.out.st h1)
    clear h1 hy
    go_wp2_with fail
    refine (first_calls 172 (by decide) _ _ (by simp)).mono ?_
    rintro e w8 ⟨rfl, rfl⟩
    rw [show refV 172 = .iface 74 (.agg #[.int .i64 172]) from rfl]
    go_wp2
    go_ret
    exact (A1.out.box _).bad (by decide)
/-- A score and a member. -/
def pairZ (c : Cm) : List ByteArray → Rz
  | s :: m :: l => match numA s with
    | none => bad 173
    | some n => if m.size ≤ 64 then (0, c.addE [⟨m, n⟩], l) else bad 172
  | _ => bad 172
theorem pairZ_none {s m : ByteArray} {l : List ByteArray} (hn : numA s = none) : pairZ c (s :: m :: l) = bad 173 := by simp [pairZ, hn]
theorem pairZ_ok {s m : ByteArray} {l : List ByteArray} {n : Int} (hn : numA s = some n) (hm : m.size ≤ 64) : pairZ c (s :: m :: l) = (0, c.addE [⟨m, n⟩], l) := by simp [pairZ, hn, hm]
theorem pairZ_no {s m : ByteArray} {l : List ByteArray} {n : Int} (hn : numA s = some n) (hm : ¬ m.size ≤ 64) : pairZ c (s :: m :: l) = bad 172 := by simp [pairZ, hn, hm]
set_option maxHeartbeats 4000000 in
set_option maxRecDepth 100000 in
theorem pair_calls {s m : ByteArray} {l : List ByteArray} (h : Rd w0 w b c (s :: m :: l)) : Calls Tryd.prog 48 #[.pointer (some ⟨b, 0, none⟩)] w (PostZ w0 w b (pairZ c (s :: m :: l))) := by
  have HS := Lib.hid h
  have hfew := h.few.2.1
  clear h
  cases hn : numA s with
  | none =>
    rw [pairZ_none hn]
    go_enter Tryd.func48, Tryd.ntmps48
    go_wp2_with fail
    refine (whole_none HS.out hn).mono ?_
    rintro e w1 ⟨rfl, h1⟩
    have A1 := Lib.hid ((At.start HS.out).st h1)
    clear h1
    unfold badV
    go_wp2
    go_ret
    exact A1.out.bad (by decide)
  | some n =>
    by_cases hm : m.size ≤ 64
    · rw [pairZ_ok hn hm]
      go_enter Tryd.func48, Tryd.ntmps48
      go_wp2_with fail
      refine (whole_some HS.out hn).mono ?_
      rintro e w1 ⟨rfl, h1⟩
      have A1 := Lib.hid ((At.start HS.out).st h1)
      clear h1
      go_wp2_with fail
      refine (short_ok A1.out.1 hm).mono ?_
      rintro e w2 ⟨rfl, h2⟩
      have A2 := Lib.hid (A1.out.st h2)
      clear h2 A1
      obtain ⟨vk, ve, vw, A, n', X⟩ := A2.out.1.open_
      have hc : w2.cell? ⟨b, 2, none⟩ = some ve := X.blk.cell 2
      have HX := Aside0.mk X
      have hszb : w0.heap.size ≤ w2.heap.size := X.bel.size
      clear X
      go_wp2_with (first | ((with_reducible refine gate_builtin (b := .append) (xs := #[.tmp 27, .tmp 31]) rfl ?_); at_builtin; refine append_E w2 rfl (.tmp 27) (.tmp 31) rfl w0.heap.size ve c.ents ⟨m, n⟩ rfl rfl HX.out.E hszb (by have := HX.out.few.2.1; omega) ?_; intro v1 w5 hR5 hg5; obtain ⟨p1, p2, p3, p4⟩ := (HX.out.below (below_box w2 (.cells #[.string m, .int .i64 n] 43))).pushE hg5 hR5 (by have := HX.out.few.2.1; simp at hfew; omega); have bb5 := p3 b _ _ (HX.out.blk.alloc _) (by decide); have FF := fun B T cs (hB : Blk w2 B T cs) hT => p3 B T cs (hB.alloc _) hT; obtain ⟨A1, m1, hv1⟩ := Kd.R_slice hR5; generalize (c.ents ++ [(⟨m, n⟩ : S43)]).length = mm at hv1; have HP := Aside0.mk (And.intro p1 FF); clear p1 p2 p3 p4 hR5 hg5 FF; subst hv1; have hf5 := bb5.frozen 2; have hc5 : w5.cell? ⟨b, 2, none⟩ = some ve := bb5.cell 2; clear bb5))
      go_ret
      exact ⟨rfl, HP.out.1.bel, A2.out.2.trans (fun B T cs hB g0 g1 g2 g3 => (HP.out.2 B T cs hB g2).other g0 2 _), fun _ => HP.out.1⟩
    · rw [pairZ_no hn hm]
      go_enter Tryd.func48, Tryd.ntmps48
      go_wp2_with fail
      refine (whole_some HS.out hn).mono ?_
      rintro e w1 ⟨rfl, h1⟩
      have A1 := Lib.hid ((At.start HS.out).st h1)
      clear h1
      go_wp2_with fail
      refine (short_no A1.out.1 hm).mono ?_
      rintro e w2 ⟨rfl, h2⟩
      have A2 := Lib.hid (A1.out.st h2)
      clear h2 A1
      unfold badV
      go_wp2
      go_ret
      exact A2.out.bad (by decide)
def zincrbyZ (c : Cm) (l : List ByteArray) : Rz := keyZ c (fun c l => pairZ { c with fl := { c.fl with incr := true } } l) l
theorem zincrby_long {k : ByteArray} {l : List ByteArray} (hk : ¬ k.size ≤ 64) : zincrbyZ c (k :: l) = bad 172 := keyZ_no hk
set_option maxHeartbeats 2000000 in
set_option maxRecDepth 100000 in
theorem zincrby_calls {k s m : ByteArray} {l : List ByteArray} (h : Rd w0 w b c (k :: s :: m :: l)) : Calls Tryd.prog 29 #[.pointer (some ⟨b, 0, none⟩)] w (PostZ w0 w b (zincrbyZ c (k :: s :: m :: l))) := by
  have HS := Lib.hid h
  by_cases hk : k.size ≤ 64
  · rw [show zincrbyZ c (k :: s :: m :: l) = pairZ { (c.addK [k]) with fl := { (c.addK [k]).fl with incr := true } } (s :: m :: l) from keyZ_ok hk]
    clear h
    go_enter Tryd.func29, Tryd.ntmps29
    go_wp2_with fail
    refine (some1_ok HS.out hk).mono ?_
    rintro e w1 ⟨rfl, h1, f1⟩
    have A1 := Lib.hid (show At w0 w b (c.addK [k]) _ w1 from ⟨h1, f1⟩)
    clear h1 f1
    have hc1 := A1.out.cell 8 (.bool c.fl.incr) (fun _ _ _ _ => rfl)
    have hf1 := A1.out.frozen 8
    have A2 := Lib.hid (A1.out.put (c' := { (c.addK [k]) with fl := { (c.addK [k]).fl with incr := true } }) 8 (.bool true) rfl rfl rfl (fun _ _ _ _ => rfl))
    have HC := Lib.hid (pair_calls A2.out.1)
    go_wp2_with fail
    refine HC.out.mono ?_
    rintro e w2 h2
    obtain ⟨rfl, h3, h4, h5⟩ := h2
    have H2 := Lib.hid (show _ ∧ _ ∧ _ from ⟨h3, A2.out.2.trans h4, h5⟩)
    clear h3 h4 h5 HC
    generalize hv : refV _ = v
    have HV := Lib.hid hv
    clear hv hc1 hf1
    go_wp2
    go_ret
    exact ⟨by rw [HV.out]; rfl, H2.out⟩
  · rw [zincrby_long hk]
    go_enter Tryd.func29, Tryd.ntmps29
    go_wp2_with fail
    refine (some1_no h hk).mono ?_
    rintro e w1 ⟨rfl, h1, f1⟩
    have H1 := Lib.hid (show _ ∧ _ from ⟨h1, f1⟩)
    clear h1 f1
    unfold badV
    go_wp2
    go_ret
    exact postE_bad (by decide) H1.out.1 H1.out.2
def isMax (s : ByteArray) : Bool := s.toList == [90, 80, 79, 80, 77, 65, 88]
/-- So many of the lowest, of the highest. -/
def popZ' (c : Cm) (l : List ByteArray) : Rz :=
  match l with
  | [] => (0, { c with n := 1, tu := isMax c.name }, [])
  | s :: l => match numE 0 9223372036854775807 s with
    | none => bad 173
    | some n => (0, { c with n := n, tu := isMax c.name }, l)
def popZ (c : Cm) (l : List ByteArray) : Rz := keyZ c popZ' l
theorem pop_long {k : ByteArray} {l : List ByteArray} (hk : ¬ k.size ≤ 64) : popZ c (k :: l) = bad 172 := keyZ_no hk
theorem popZ_none {s : ByteArray} {l : List ByteArray} (hn : numE 0 9223372036854775807 s = none) : popZ' c (s :: l) = bad 173 := by simp [popZ', hn]
theorem popZ_some {s : ByteArray} {l : List ByteArray} {n : Int} (hn : numE 0 9223372036854775807 s = some n) : popZ' c (s :: l) = (0, { c with n := n, tu := isMax c.name }, l) := by simp [popZ', hn]
set_option maxHeartbeats 4000000 in
set_option maxRecDepth 100000 in
theorem pop_calls {k : ByteArray} {l : List ByteArray} (h : Rd w0 w b c (k :: l)) : Calls Tryd.prog 34 #[.pointer (some ⟨b, 0, none⟩)] w (PostZ w0 w b (popZ c (k :: l))) := by
  have HS := Lib.hid h
  by_cases hk : k.size ≤ 64
  · rw [show popZ c (k :: l) = popZ' (c.addK [k]) l from keyZ_ok hk]
    clear h
    cases l with
    | nil =>
      show Calls _ _ _ _ (PostE w0 w b 0 { (c.addK [k]) with n := 1, tu := isMax c.name } [])
      go_enter Tryd.func34, Tryd.ntmps34
      go_wp2_with fail
      refine (some1_ok HS.out hk).mono ?_
      rintro e w1 ⟨rfl, h1, f1⟩
      have A1 := Lib.hid (show At w0 w b (c.addK [k]) _ w1 from ⟨h1, f1⟩)
      clear h1 f1
      have hcn := A1.out.cell 0 (.string c.name) (fun _ _ _ _ => rfl)
      have hc1 := A1.out.cell 21 (.int .i64 c.n) (fun _ _ _ _ => rfl)
      have hf1 := A1.out.frozen 21
      have hc2 := A1.out.cell 26 (.bool c.tu) (fun _ _ _ _ => rfl)
      have hf2 := A1.out.frozen 26
      have A2 := Lib.hid ((A1.out.put (c' := { (c.addK [k]) with n := 1 }) 21 (.int .i64 1) rfl rfl rfl (fun _ _ _ _ => rfl)).put (c' := { (c.addK [k]) with n := 1, tu := isMax c.name }) 26 (.bool (c.name.toList == [90, 80, 79, 80, 77, 65, 88])) rfl rfl rfl (fun _ _ _ _ => rfl))
      obtain ⟨Al, nl, hl⟩ := A2.out.left
      clear A1
      go_wp2
      go_ret
      exact A2.out.ok
    | cons s l =>
      have hln : l.length < 1000 := by have := HS.out.few.1; simp at this; omega
      cases hn : numE 0 9223372036854775807 s with
      | none =>
        rw [popZ_none hn]
        go_enter Tryd.func34, Tryd.ntmps34
        go_wp2_with fail
        refine (some1_ok HS.out hk).mono ?_
        rintro e w1 ⟨rfl, h1, f1⟩
        have A1 := Lib.hid (show At w0 w b (c.addK [k]) _ w1 from ⟨h1, f1⟩)
        clear h1 f1
        have hcn := A1.out.cell 0 (.string c.name) (fun _ _ _ _ => rfl)
        have hc1 := A1.out.cell 21 (.int .i64 c.n) (fun _ _ _ _ => rfl)
        have hf1 := A1.out.frozen 21
        have hc2 := A1.out.cell 26 (.bool c.tu) (fun _ _ _ _ => rfl)
        have hf2 := A1.out.frozen 26
        have A2 := Lib.hid ((A1.out.put (c' := { (c.addK [k]) with n := 1 }) 21 (.int .i64 1) rfl rfl rfl (fun _ _ _ _ => rfl)).put (c' := { (c.addK [k]) with n := 1, tu := isMax c.name }) 26 (.bool (c.name.toList == [90, 80, 79, 80, 77, 65, 88])) rfl rfl rfl (fun _ _ _ _ => rfl))
        obtain ⟨Al, nl, hl⟩ := A2.out.left
        clear A1
        go_wp2_with fail
        refine (number_none A2.out.1 hn).mono ?_
        rintro e w3 ⟨rfl, h3⟩
        have A3 := A2.out.st h3
        have hc3 := A3.cell 21 (.int .i64 1) (fun _ _ _ _ => rfl)
        have hf3 := A3.frozen 21
        have A4 := Lib.hid (A3.put (c' := { (c.addK [k]) with n := 0, tu := isMax c.name }) 21 (.int .i64 0) rfl rfl rfl (fun _ _ _ _ => rfl))
        clear h3 A3 hl
        unfold badV
        go_wp2
        go_ret
        exact A4.out.bad (by decide)
      | some n =>
        rw [popZ_some hn]
        go_enter Tryd.func34, Tryd.ntmps34
        go_wp2_with fail
        refine (some1_ok HS.out hk).mono ?_
        rintro e w1 ⟨rfl, h1, f1⟩
        have A1 := Lib.hid (show At w0 w b (c.addK [k]) _ w1 from ⟨h1, f1⟩)
        clear h1 f1
        have hcn := A1.out.cell 0 (.string c.name) (fun _ _ _ _ => rfl)
        have hc1 := A1.out.cell 21 (.int .i64 c.n) (fun _ _ _ _ => rfl)
        have hf1 := A1.out.frozen 21
        have hc2 := A1.out.cell 26 (.bool c.tu) (fun _ _ _ _ => rfl)
        have hf2 := A1.out.frozen 26
        have A2 := Lib.hid ((A1.out.put (c' := { (c.addK [k]) with n := 1 }) 21 (.int .i64 1) rfl rfl rfl (fun _ _ _ _ => rfl)).put (c' := { (c.addK [k]) with n := 1, tu := isMax c.name }) 26 (.bool (c.name.toList == [90, 80, 79, 80, 77, 65, 88])) rfl rfl rfl (fun _ _ _ _ => rfl))
        obtain ⟨Al, nl, hl⟩ := A2.out.left
        clear A1
        go_wp2_with fail
        refine (number_some A2.out.1 hn).mono ?_
        rintro e w3 ⟨rfl, h3⟩
        have A3 := A2.out.st h3
        have hc3 := A3.cell 21 (.int .i64 1) (fun _ _ _ _ => rfl)
        have hf3 := A3.frozen 21
        have A4 := Lib.hid (A3.put (c' := { (c.addK [k]) with n := n, tu := isMax c.name }) 21 (.int .i64 n) rfl rfl rfl (fun _ _ _ _ => rfl))
        clear h3 A3 hl
        go_wp2
        go_ret
        exact A4.out.ok
  · rw [pop_long hk]
    go_enter Tryd.func34, Tryd.ntmps34
    go_wp2_with fail
    refine (some1_no h hk).mono ?_
    rintro e w1 ⟨rfl, h1, f1⟩
    have H1 := Lib.hid (show _ ∧ _ from ⟨h1, f1⟩)
    clear h1 f1
    unfold badV
    go_wp2
    go_ret
    exact postE_bad (by decide) H1.out.1 H1.out.2
end
end Go.Proofs.YtegmbgjolnbgpaaDoor.P
