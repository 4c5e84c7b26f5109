/- The reader's small steps: a refusal, the next argument, what is left. Conditions: each theorem names its own. -/
import Derived.Test.YtegmbgjolnbgpaaDoorFL
import Derived.Test.YtegmbgjolnbgpaaDoorPH2
namespace Go.Proofs.YtegmbgjolnbgpaaDoor.P
open Go.RowKit Go.Shelf Go.Proofs.YtegmbgjolnbgpaaDoorW.PrintWords Go.Proofs.YtegmbgjolnbgpaaDoorW.PrintLast Go.Proofs.YtegmbgjolnbgpaaDoorW.PrintMore
attribute [local go_sem] Oper.semAt_some

theorem first_calls (e : Int) (he : e ≠ 0) (B : Nat) (w : World) (h0 : w.cell? ⟨B, 0, none⟩ = some (.int .i64 e)) : Calls Tryd.prog 44 #[.slice (some ⟨B, 0, none⟩) 1 1] w fun ev w' => ev = .returned (refV e) ∧ w = w' := by
  rw [refV_ne he]
  have hb : (e != 0) = true := by simpa using he
  go_enter Tryd.func44, Tryd.ntmps44
  go_wp2
  refine wp_loop_rounds 2 ?_
  repeat (rw [rounds_succ]; go_wp2)
  go_ret
  exact ⟨rfl, rfl⟩
theorem infoStr : (Tryd.prog.info? 9).map (fun i => (i.zero, i.size, i.bytes)) = some (some (.string ⟨#[]⟩), 1, 16) := by kernel_rfl
theorem cutS (A : Option Addr) (n c F : Nat) (h2 : F ≤ n) : ∀ W : World, (Instr.slice 22 (.slice A n c) (some (.int .i64 (F : Int))) none none).run Tryd.prog W = .ok (.slice (if c = F then A else A.map (·.add (F * 1))) (n - F) (c - F)) W := by
  intro W
  obtain ⟨i0, hi, hz0, hz1, hz2⟩ := info_parts infoStr
  have hel : Tryd.prog.elem 22 = 9 := by simp [Program.elem, Tryd.underlying22]
  rw [run_slice_l W 22 A n c (by rw [hel]; exact Tryd.underlying22) .i64 (F : Int) (by omega) (by omega), hel]
  simp [sizeOf, typeInfo, hi, hz1, sliced, Result.andThen]
theorem dropS {w : World} {A : Option Addr} {L : List ByteArray} {c : Nat} (h : Kd.C Kd.string w A L.length L) {T : Nat} (hT : T ≤ L.length) (hc : L.length ≤ c) : Kd.C Kd.string w (if c = T then A else A.map (·.add (T * 1))) (L.drop T).length (L.drop T) :=
  Kd.C_drop (k := Kd.string) (m := T) (c := c) h hT hc
theorem add_zero' (a : Addr) : a.add 0 = a := rfl
set_option maxHeartbeats 1000000 in
theorem take_calls {w0 w : World} {b : Nat} {c : Cm} {s : ByteArray} {l : List ByteArray} (h : Rd w0 w b c (s :: l)) :
    Calls Tryd.prog 43 #[.pointer (some ⟨b, 0, none⟩)] w fun e w' => e = .returned (.string s) ∧ Rd w0 w' b c l ∧ w.grownBy w' (some b) := by
  obtain ⟨vk, ve, vw, A, n, hB, hn, hC, _⟩ := h.ex
  obtain ⟨ad, rfl, hs⟩ := C_str hC 0 (by simp)
  have hlt : ad.block < w0.heap.size := C_str_lt hC 0 (by simp)
  rw [add_zero'] at hs
  have hs1 : w.cell? ad = some (.string s) := (h.bel.cell hlt).trans hs
  have hl : w.cell? ⟨b, 29, none⟩ = some (.slice (some ad) (l.length + 1) n) := hB.cell 29
  have hf := h.frozen 29
  have hcut : ∀ W : World, (Instr.slice 22 (.slice (some ad) (l.length + 1) n) (some (.int .i64 1)) none none).run Tryd.prog W = .ok (.slice (if n = 1 then some ad else (some ad).map (·.add (1 * 1))) l.length (n - 1)) W := cutS (some ad) (l.length + 1) n 1 (by omega)
  have hd := dropS hC (T := 1) (c := n) (by simp) hn
  have hl2 : l.length + 1 ≤ n := hn
  rw [show (s :: l).drop 1 = l from rfl] at hd
  generalize (if n = 1 then some ad else (some ad).map (·.add (1 * 1))) = A1 at hcut hd
  have H := Lib.hid h
  have HD := Lib.hid hd
  clear h hB hC hd hn hs
  go_enter Tryd.func43, Tryd.ntmps43
  go_wp2
  go_ret
  exact ⟨rfl, H.out.cut (n' := n - 1) (by omega) (by simp) (fun x hx => List.mem_cons_of_mem _ hx) HD.out, grown_set (grown_refl _ _) _ _⟩
/-- What a step of the reader leaves. -/
def St (w0 w : World) (b : Nat) (c : Cm) (l : List ByteArray) (w' : World) : Prop := Rd w0 w' b c l ∧ w.grownBy w' (some b)
theorem St.below {w0 w w1 w2 : World} {b : Nat} {c : Cm} {l : List ByteArray} (h : St w0 w b c l w1) (hb : Below w1.heap.size w1 w2) : St w0 w b c l w2 := ⟨h.1.below hb, grown_trans h.2 (grown_below hb _)⟩
theorem St.pre {w0 w w1 w2 : World} {b : Nat} {c : Cm} {l : List ByteArray} (hb : Below w.heap.size w w1) (h : St w0 w1 b c l w2) : St w0 w b c l w2 := ⟨h.1, grown_trans (grown_below hb _) h.2⟩
theorem St.trans {w0 w w1 w2 : World} {b : Nat} {c c' : Cm} {l l' : List ByteArray} (h0 : St w0 w b c' l' w1) (h : St w0 w1 b c l w2) : St w0 w b c l w2 := ⟨h.1, grown_trans h0.2 h.2⟩
theorem St.refl {w0 w : World} {b : Nat} {c : Cm} {l : List ByteArray} (h : Rd w0 w b c l) : St w0 w b c l w := ⟨h, grown_refl _ _⟩
def shortV (s : ByteArray) : Value := if s.size ≤ 64 then .tuple #[.string s, .nilIface] else .tuple #[.string ⟨#[]⟩, refV 172]
theorem below_box (w : World) (o : Obj) : Below w.heap.size w (w.alloc o) := (Below.refl _ _).alloc (Nat.le_refl _) _
set_option maxHeartbeats 1000000 in
theorem short_calls {w0 w : World} {b : Nat} {c : Cm} {s : ByteArray} {l : List ByteArray} (h : Rd w0 w b c (s :: l)) :
    Calls Tryd.prog 65 #[.pointer (some ⟨b, 0, none⟩)] w fun e w' => e = .returned (shortV s) ∧ St w0 w b c l w' := by
  have hT := take_calls h
  have HT := Lib.hid hT
  clear hT
  unfold shortV
  by_cases hs : s.size ≤ 64
  · rw [if_pos hs]
    have hs1 : ¬ (64 : Int) < (s.size : Int) := by omega
    clear h hs
    go_enter Tryd.func65, Tryd.ntmps65
    go_wp2_with fail
    refine HT.out.mono ?_
    rintro e w1 ⟨rfl, h1, g1⟩
    have H1 := Lib.hid h1
    have G1 := Lib.hid g1
    clear h1 g1
    go_wp2
    go_ret2
    exact ⟨rfl, H1.out, G1.out⟩
  · rw [if_neg hs]
    have hs1 : (64 : Int) < (s.size : Int) := by omega
    clear h hs
    go_enter Tryd.func65, Tryd.ntmps65
    go_wp2_with fail
    refine HT.out.mono ?_
    rintro e w1 ⟨rfl, h1, g1⟩
    have H1 := Lib.hid h1
    have G1 := Lib.hid g1
    clear h1 g1
    go_wp2_with fail
    refine (first_calls 172 (by decide) _ _ (by simp)).mono ?_
    rintro e w2 ⟨rfl, rfl⟩
    go_wp2
    go_ret2
    exact ⟨rfl, St.below ⟨H1.out, G1.out⟩ (below_box _ _)⟩
/-- The number of a text, and what is wrong with it. -/
def numOf (s : ByteArray) : Int × Int := if 0 < s.size ∧ bt s 0 = 45 then parseOf true (s.extract 1 s.size) else parseOf false s
theorem num_calls (s : ByteArray) (hs : s.size ≤ 100000) (w : World) :
    Calls Tryd.prog 42 #[.string s] w fun e w' => e = .returned (.tuple #[.int .i64 (numOf s).1, .int .i64 (numOf s).2]) ∧ Below w.heap.size w w' := by
  have h : ints_Parse.f s = some (numOf s) := by
    unfold ints_Parse.f
    rw [if_pos (by omega)]
    rfl
  exact ints_Parse.calls _ _ _ _ h
theorem numOf_bd (s : ByteArray) : -9223372036854775808 ≤ (numOf s).1 ∧ (numOf s).1 ≤ 9223372036854775807 := by
  have key : ∀ b rest, -9223372036854775808 ≤ (parseOf b rest).1 ∧ (parseOf b rest).1 ≤ 9223372036854775807 := by
    intro b rest
    unfold parseOf
    split
    · rename_i hd
      have h0 : 0 ≤ digN rest rest.size := digN_nonneg rest hd
      split
      · split
        · simp only; omega
        · simp only; omega
      · split
        · simp only; omega
        · simp only; omega
    · simp only; omega
  unfold numOf
  split <;> exact key _ _
def numE (lo hi : Int) (s : ByteArray) : Option Int := if (numOf s).2 = 0 ∧ lo ≤ (numOf s).1 ∧ (numOf s).1 ≤ hi then some (numOf s).1 else none
def numV : Option Int → Value
  | some n => .tuple #[.int .i64 n, .nilIface]
  | none => .tuple #[.int .i64 0, refV 173]
set_option maxHeartbeats 2000000 in
theorem number_calls {w0 w : World} {b : Nat} {c : Cm} {s : ByteArray} {l : List ByteArray} (h : Rd w0 w b c (s :: l)) (lo hi : Int) :
    Calls Tryd.prog 54 #[.pointer (some ⟨b, 0, none⟩), .int .i64 lo, .int .i64 hi] w fun e w' => e = .returned (numV (numE lo hi s)) ∧ St w0 w b c l w' := by
  have hT := take_calls h
  have HT := Lib.hid hT
  have hsz : s.size ≤ 100000 := Nat.le_trans (h.ok s List.mem_cons_self) (by decide)
  have hnum := num_calls s hsz
  have hbd := numOf_bd s
  unfold numE
  clear hT hsz h
  generalize numOf s = p at hnum hbd ⊢
  obtain ⟨n, f⟩ := p
  simp only at hnum hbd ⊢
  have HN := Lib.hid hnum
  obtain ⟨hbd1, hbd2⟩ := hbd
  clear hnum
  by_cases hf : f = 0
  · subst hf
    by_cases hl : n < lo
    · rw [if_neg (by omega)]
      go_enter Tryd.func54, Tryd.ntmps54
      go_wp2_with fail
      refine HT.out.mono ?_
      rintro e w1 ⟨rfl, h1, g1⟩
      have H1 := Lib.hid (show St w0 w b c l w1 from ⟨h1, g1⟩)
      clear h1 g1
      go_wp2_with fail
      refine (HN.out w1).mono ?_
      rintro e w2 ⟨rfl, hb2⟩
      have H2 := Lib.hid (H1.out.below hb2)
      clear hb2 H1
      go_wp2_with fail
      refine (first_calls 173 (by decide) _ _ (by simp)).mono ?_
      rintro e w3 ⟨rfl, rfl⟩
      go_wp2
      go_ret2
      exact ⟨rfl, H2.out.below (below_box _ _)⟩
    · by_cases hh : hi < n
      · rw [if_neg (by omega)]
        go_enter Tryd.func54, Tryd.ntmps54
        go_wp2_with fail
        refine HT.out.mono ?_
        rintro e w1 ⟨rfl, h1, g1⟩
        have H1 := Lib.hid (show St w0 w b c l w1 from ⟨h1, g1⟩)
        clear h1 g1
        go_wp2_with fail
        refine (HN.out w1).mono ?_
        rintro e w2 ⟨rfl, hb2⟩
        have H2 := Lib.hid (H1.out.below hb2)
        clear hb2 H1
        go_wp2_with fail
        refine (first_calls 173 (by decide) _ _ (by simp)).mono ?_
        rintro e w3 ⟨rfl, rfl⟩
        go_wp2
        go_ret2
        exact ⟨rfl, H2.out.below (below_box _ _)⟩
      · rw [if_pos (by omega)]
        go_enter Tryd.func54, Tryd.ntmps54
        go_wp2_with fail
        refine HT.out.mono ?_
        rintro e w1 ⟨rfl, h1, g1⟩
        have H1 := Lib.hid (show St w0 w b c l w1 from ⟨h1, g1⟩)
        clear h1 g1
        go_wp2_with fail
        refine (HN.out w1).mono ?_
        rintro e w2 ⟨rfl, hb2⟩
        have H2 := Lib.hid (H1.out.below hb2)
        clear hb2 H1
        go_wp2
        go_ret2
        exact ⟨rfl, H2.out⟩
  · have hfb : (f != 0) = true := by simpa using hf
    rw [if_neg (by omega)]
    clear hf
    go_enter Tryd.func54, Tryd.ntmps54
    go_wp2_with fail
    refine HT.out.mono ?_
    rintro e w1 ⟨rfl, h1, g1⟩
    have H1 := Lib.hid (show St w0 w b c l w1 from ⟨h1, g1⟩)
    clear h1 g1
    go_wp2_with fail
    refine (HN.out w1).mono ?_
    rintro e w2 ⟨rfl, hb2⟩
    have H2 := Lib.hid (H1.out.below hb2)
    clear hb2 H1
    go_wp2_with fail
    refine (first_calls 173 (by decide) _ _ (by simp)).mono ?_
    rintro e w3 ⟨rfl, rfl⟩
    go_wp2
    go_ret2
    exact ⟨rfl, H2.out.below (below_box _ _)⟩
theorem whole_calls {w0 w : World} {b : Nat} {c : Cm} {s : ByteArray} {l : List ByteArray} (h : Rd w0 w b c (s :: l)) :
    Calls Tryd.prog 50 #[.pointer (some ⟨b, 0, none⟩)] w fun e w' => e = .returned (numV (numE (-9223372036854775808) 9223372036854775807 s)) ∧ St w0 w b c l w' := by
  have HT := Lib.hid (number_calls h (-9223372036854775808) 9223372036854775807)
  clear h
  generalize numE (-9223372036854775808) 9223372036854775807 s = x at HT ⊢
  cases x with
  | some n =>
    go_enter Tryd.func50, Tryd.ntmps50
    go_wp2_with fail
    refine HT.out.mono ?_
    rintro e w1 ⟨rfl, h1⟩
    have H1 := Lib.hid h1
    clear h1
    unfold numV
    go_wp2
    go_ret2
    exact ⟨rfl, H1.out⟩
  | none =>
    go_enter Tryd.func50, Tryd.ntmps50
    go_wp2_with fail
    refine HT.out.mono ?_
    rintro e w1 ⟨rfl, h1⟩
    have H1 := Lib.hid h1
    clear h1
    unfold numV
    go_wp2
    go_ret2
    exact ⟨rfl, H1.out⟩
/-- Is the next argument a word? What is left behind it. -/
def isW (W : ByteArray) : List ByteArray → Bool × List ByteArray
  | s :: t => if up s = W.data.toList then (true, t) else (false, s :: t)
  | [] => (false, [])
set_option maxHeartbeats 2000000 in
set_option maxRecDepth 100000 in
theorem isWord_calls {w0 w : World} {b : Nat} {c : Cm} {l : List ByteArray} (h : Rd w0 w b c l) (W : ByteArray) (B : Nat) (hW : w.cell? ⟨B, 0, none⟩ = some (.string W)):
    Calls Tryd.prog 45 #[.pointer (some ⟨b, 0, none⟩), .slice (some ⟨B, 0, none⟩) 1 1] w fun e w' => e = .returned (.bool (isW W l).1) ∧ St w0 w b c (isW W l).2 w' := by
  obtain ⟨vk, ve, vw, A, n, hB, hn, hC, _⟩ := h.ex
  cases l with
  | nil =>
    have hl : w.cell? ⟨b, 29, none⟩ = some (.slice A 0 n) := hB.cell 29
    have H := Lib.hid h
    clear h hB hC hn
    show Calls _ _ _ _ (fun e w' => e = .returned (.bool false) ∧ St w0 w b c [] w')
    go_enter Tryd.func45, Tryd.ntmps45
    go_wp2
    refine wp_loop_rounds 2 ?_
    repeat (rw [rounds_succ]; go_wp2)
    go_ret
    exact ⟨rfl, H.out, grown_refl _ _⟩
  | cons s t =>
    obtain ⟨ad, rfl, hs⟩ := C_str hC 0 (by simp)
    have hlt : ad.block < w0.heap.size := C_str_lt hC 0 (by simp)
    rw [add_zero'] at hs
    have hs1 : w.cell? ad = some (.string s) := (h.bel.cell hlt).trans hs
    have hl : w.cell? ⟨b, 29, none⟩ = some (.slice (some ad) (t.length + 1) n) := hB.cell 29
    have hsz := h.ok s List.mem_cons_self
    have hfew := h.few.1
    have htl : (t.length : Int) < 1000 := by simp at hfew; omega
    have hup := upper_calls s hsz
    have HU := Lib.hid hup
    have H := Lib.hid h
    have HTK := Lib.hid (fun w1 (hb : Below w.heap.size w w1) => take_calls (h.below hb))
    clear h hB hC hn hs hup hsz hfew
    by_cases hq : up s = W.data.toList
    · rw [show isW W (s :: t) = (true, t) from if_pos hq]
      have hqb : (up s == W.toList) = true := by rw [ByteArray.toList_eq, hq]; simp
      clear hq
      go_enter Tryd.func45, Tryd.ntmps45
      go_wp2
      refine wp_loop_rounds 2 ?_
      rw [rounds_succ]
      go_wp2_with fail
      refine (HU.out w).mono ?_
      rintro e w1 ⟨rfl, hb1⟩
      have H1 := Lib.hid (H.out.below hb1)
      have HT1 := Lib.hid (HTK.out w1 hb1)
      have HG1 := Lib.hid (grown_below hb1 (some b))
      clear hb1
      go_wp2_with fail
      refine HT1.out.mono ?_
      rintro e w2 ⟨rfl, h2, g2⟩
      have H2 := Lib.hid (show St w0 w b c t w2 from ⟨h2, grown_trans HG1.out g2⟩)
      clear h2 g2
      go_wp2
      go_ret
      exact ⟨rfl, H2.out⟩
    · rw [show isW W (s :: t) = (false, s :: t) from if_neg hq]
      have hqb : (up s == W.toList) = false := by rw [ByteArray.toList_eq]; exact beq_eq_false_iff_ne.mpr hq
      clear hq
      go_enter Tryd.func45, Tryd.ntmps45
      go_wp2
      refine wp_loop_rounds 2 ?_
      rw [rounds_succ]
      go_wp2_with fail
      refine (HU.out w).mono ?_
      rintro e w1 ⟨rfl, hb1⟩
      have H1 := Lib.hid (H.out.below hb1)
      have HT1 := Lib.hid (HTK.out w1 hb1)
      have HG1 := Lib.hid (grown_below hb1 (some b))
      clear hb1
      go_wp2_with fail
      rw [rounds_succ]
      go_wp2
      go_ret
      exact ⟨rfl, H1.out, HG1.out⟩
set_option maxHeartbeats 1000000 in
set_option maxRecDepth 100000 in
theorem ends_calls {w0 w : World} {b : Nat} {c : Cm} {l : List ByteArray} (h : Rd w0 w b c l) :
    Calls Tryd.prog 46 #[.pointer (some ⟨b, 0, none⟩)] w fun e w' => e = .returned (refV (if l.length = 0 then 0 else 172)) ∧ St w0 w b c l w' := by
  obtain ⟨vk, ve, vw, A, n, hB, hn, hC, _⟩ := h.ex
  have hl : w.cell? ⟨b, 29, none⟩ = some (.slice A l.length n) := hB.cell 29
  have hfew := h.few.1
  have H := Lib.hid h
  clear h hB hC hn
  by_cases h0 : l.length = 0
  · rw [if_pos h0]
    rw [h0] at hl
    show Calls _ _ _ _ (fun e w' => e = .returned .nilIface ∧ St w0 w b c l w')
    clear h0 hfew
    go_enter Tryd.func46, Tryd.ntmps46
    go_wp2
    go_ret
    exact ⟨rfl, H.out, grown_refl _ _⟩
  · rw [if_neg h0]
    have h1 : (0 : Int) < (l.length : Int) := by omega
    have h2 : (l.length : Int) < 1000 := by omega
    generalize l.length = m at hl h1 h2
    clear h0 hfew
    go_enter Tryd.func46, Tryd.ntmps46
    go_wp2_with fail
    refine (first_calls 172 (by decide) _ _ (by simp)).mono ?_
    rintro e w3 ⟨rfl, rfl⟩
    go_wp2
    go_ret
    exact ⟨rfl, (St.refl H.out).below (below_box _ _)⟩
end Go.Proofs.YtegmbgjolnbgpaaDoor.P
