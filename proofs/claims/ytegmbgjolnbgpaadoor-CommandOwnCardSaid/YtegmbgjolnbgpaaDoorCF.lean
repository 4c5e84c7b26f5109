/- The reader's methods that take keys, a cursor, a pair. Conditions: each theorem names its own. -/
import Derived.Test.YtegmbgjolnbgpaaDoorCE
namespace Go.Proofs.YtegmbgjolnbgpaaDoor.P
open Go.RowKit Go.Shelf Go.Proofs.YtegmbgjolnbgpaaDoorW.PrintWords Go.Proofs.YtegmbgjolnbgpaaDoorW.PrintLast Go.Proofs.YtegmbgjolnbgpaaDoorW.PrintMore
attribute [local go_sem] Oper.semAt_some

/-- What is wrong, what the command is then, what is left. -/
abbrev Rz := Int × Cm × List ByteArray
abbrev PostZ (w0 w : World) (b : Nat) (r : Rz) : Ending → World → Prop := PostE w0 w b r.1 r.2.1 r.2.2
def bad (e : Int) : Rz := (e, zCm, [])
def badV (e : Int) : Value := .iface 74 (.agg #[.int .i64 e])
theorem postE_bad {w0 w w' : World} {b : Nat} {c : Cm} {l : List ByteArray} {e : Int} (he : e ≠ 0) (hb : Below w0.heap.size w0 w') (hf : Fr b w w') : PostE w0 w b e c l (.returned (badV e)) w' :=
  ⟨by rw [refV_ne he]; rfl, hb, hf, fun h => absurd h he⟩
theorem postE_ok {w0 w w' : World} {b : Nat} {c : Cm} {l : List ByteArray} (h : Rd w0 w' b c l) (hf : Fr b w w') : PostE w0 w b 0 c l (.returned .nilIface) w' := ⟨rfl, h.bel, hf, fun _ => h⟩
section
variable {w0 w : World} {b : Nat} {c : Cm}
theorem some1_ok {k : ByteArray} {l : List ByteArray} (h : Rd w0 w b c (k :: l)) (hk : k.size ≤ 64) :
    Calls Tryd.prog 41 #[.pointer (some ⟨b, 0, none⟩), .int .i64 1] w fun e w' => e = .returned .nilIface ∧ Rd w0 w' b (c.addK [k]) l ∧ Fr b w w' := by
  refine (some_calls h 1 (by simp)).mono ?_
  rintro e w' ⟨rfl, h1, h2, h3⟩
  have h0 : someE (k :: l) 1 = 0 := by unfold someE; simp [hk]
  exact ⟨by rw [h0]; rfl, h3 h0, h2⟩
theorem some1_no {k : ByteArray} {l : List ByteArray} (h : Rd w0 w b c (k :: l)) (hk : ¬ k.size ≤ 64) :
    Calls Tryd.prog 41 #[.pointer (some ⟨b, 0, none⟩), .int .i64 1] w fun e w' => e = .returned (badV 172) ∧ Below w0.heap.size w0 w' ∧ Fr b w w' := by
  refine (some_calls h 1 (by simp)).mono ?_
  rintro e w' ⟨rfl, h1, h2, h3⟩
  have h0 : someE (k :: l) 1 = 172 := by unfold someE; simp [hk]
  exact ⟨by rw [h0]; rfl, h1, h2⟩
theorem number_some {s : ByteArray} {l : List ByteArray} (h : Rd w0 w b c (s :: l)) {lo hi n : Int} (hn : numE lo hi s = some n) :
    Calls Tryd.prog 54 #[.pointer (some ⟨b, 0, none⟩), .int .i64 lo, .int .i64 hi] w fun e w' => e = .returned (.tuple #[.int .i64 n, .nilIface]) ∧ St w0 w b c l w' := by
  have := number_calls h lo hi
  rw [hn] at this
  exact this
theorem number_none {s : ByteArray} {l : List ByteArray} (h : Rd w0 w b c (s :: l)) {lo hi : Int} (hn : numE lo hi s = none) :
    Calls Tryd.prog 54 #[.pointer (some ⟨b, 0, none⟩), .int .i64 lo, .int .i64 hi] w fun e w' => e = .returned (.tuple #[.int .i64 0, badV 173]) ∧ St w0 w b c l w' := by
  have := number_calls h lo hi
  rw [hn] at this
  exact this
def numA (s : ByteArray) : Option Int := numE (-9223372036854775808) 9223372036854775807 s
theorem whole_some {s : ByteArray} {l : List ByteArray} (h : Rd w0 w b c (s :: l)) {n : Int} (hn : numA s = some n) :
    Calls Tryd.prog 50 #[.pointer (some ⟨b, 0, none⟩)] w fun e w' => e = .returned (.tuple #[.int .i64 n, .nilIface]) ∧ St w0 w b c l w' := by
  have := whole_calls h
  unfold numA at hn
  rw [hn] at this
  exact this
theorem whole_none {s : ByteArray} {l : List ByteArray} (h : Rd w0 w b c (s :: l)) (hn : numA s = none) :
    Calls Tryd.prog 50 #[.pointer (some ⟨b, 0, none⟩)] w fun e w' => e = .returned (.tuple #[.int .i64 0, badV 173]) ∧ St w0 w b c l w' := by
  have := whole_calls h
  unfold numA at hn
  rw [hn] at this
  exact this
theorem short_ok {s : ByteArray} {l : List ByteArray} (h : Rd w0 w b c (s :: l)) (hs : s.size ≤ 64) :
    Calls Tryd.prog 65 #[.pointer (some ⟨b, 0, none⟩)] w fun e w' => e = .returned (.tuple #[.string s, .nilIface]) ∧ St w0 w b c l w' := by
  have := short_calls h
  unfold shortV at this
  rw [if_pos hs] at this
  exact this
theorem short_no {s : ByteArray} {l : List ByteArray} (h : Rd w0 w b c (s :: l)) (hs : ¬ s.size ≤ 64) :
    Calls Tryd.prog 65 #[.pointer (some ⟨b, 0, none⟩)] w fun e w' => e = .returned (.tuple #[.string ⟨#[]⟩, badV 172]) ∧ St w0 w b c l w' := by
  have := short_calls h
  unfold shortV at this
  rw [if_neg hs] at this
  exact this
theorem isWord_yes {l : List ByteArray} (h : Rd w0 w b c l) (W : ByteArray) (B : Nat) (hW : w.cell? ⟨B, 0, none⟩ = some (.string W)) (hy : (isW W l).1 = true) :
    Calls Tryd.prog 45 #[.pointer (some ⟨b, 0, none⟩), .slice (some ⟨B, 0, none⟩) 1 1] w fun e w' => e = .returned (.bool true) ∧ St w0 w b c (isW W l).2 w' := by
  have := isWord_calls h W B hW
  rw [hy] at this
  exact this
theorem isWord_no {l : List ByteArray} (h : Rd w0 w b c l) (W : ByteArray) (B : Nat) (hW : w.cell? ⟨B, 0, none⟩ = some (.string W)) (hy : (isW W l).1 = false) :
    Calls Tryd.prog 45 #[.pointer (some ⟨b, 0, none⟩), .slice (some ⟨B, 0, none⟩) 1 1] w fun e w' => e = .returned (.bool false) ∧ St w0 w b c (isW W l).2 w' := by
  have := isWord_calls h W B hW
  rw [hy] at this
  exact this
theorem ends_ok (h : Rd w0 w b c []) : Calls Tryd.prog 46 #[.pointer (some ⟨b, 0, none⟩)] w fun e w' => e = .returned .nilIface ∧ St w0 w b c [] w' := ends_calls h
theorem ends_no {l : List ByteArray} (h : Rd w0 w b c l) (hl : l ≠ []) : Calls Tryd.prog 46 #[.pointer (some ⟨b, 0, none⟩)] w fun e w' => e = .returned (badV 172) ∧ St w0 w b c l w' := by
  have := ends_calls h
  rw [if_neg (fun e => hl (List.length_eq_zero_iff.1 e))] at this
  exact this
/-- All that is left as keys. -/
def keysZ (c : Cm) (l : List ByteArray) : Rz := (someE l l.length, c.addK l, [])
set_option maxHeartbeats 1000000 in
theorem keys_calls {l : List ByteArray} (h : Rd w0 w b c l) : Calls Tryd.prog 25 #[.pointer (some ⟨b, 0, none⟩)] w (PostZ w0 w b (keysZ c l)) := by
  obtain ⟨vk, ve, vw, A, n, hB, hn, hC, _⟩ := h.ex
  have hl : w.cell? ⟨b, 29, none⟩ = some (.slice A l.length n) := hB.cell 29
  have hcall := some_calls h l.length (Nat.le_refl _)
  rw [List.take_length, List.drop_length] at hcall
  have HC := Lib.hid hcall
  clear h hB hC hcall hn
  unfold keysZ PostZ
  simp only
  rcases someE_two l l.length with h0 | h0
  · rw [h0] at HC ⊢
    go_enter Tryd.func25, Tryd.ntmps25
    go_wp2_with fail
    refine HC.out.mono ?_
    rintro e w1 ⟨rfl, h1, h2, h3⟩
    have H := Lib.hid (show _ ∧ _ from ⟨h2, h3 rfl⟩)
    clear h1 h2 h3
    rw [show refV 0 = .nilIface from rfl]
    go_wp2
    go_ret
    exact postE_ok H.out.2 H.out.1
  · rw [h0] at HC ⊢
    go_enter Tryd.func25, Tryd.ntmps25
    go_wp2_with fail
    refine HC.out.mono ?_
    rintro e w1 ⟨rfl, h1, h2, h3⟩
    have H := Lib.hid (show _ ∧ _ from ⟨h2, h1⟩)
    clear h1 h2 h3
    rw [show refV 172 = .iface 74 (.agg #[.int .i64 172]) from rfl]
    go_wp2
    go_ret
    exact postE_bad (by decide) H.out.2 H.out.1
/-- Whether scores are told, too. -/
def wScores : ByteArray := ⟨#[87, 73, 84, 72, 83, 67, 79, 82, 69, 83]⟩
def scoresZ (c : Cm) (l : List ByteArray) : Rz := if (isW wScores l).2.length = 0 then (0, { c with sc := (isW wScores l).1 }, []) else bad 172
theorem St.fr {w' : World} {l : List ByteArray} (h : St w0 w b c l w') : Fr b w w' := Fr.grown h.2
set_option maxHeartbeats 1000000 in
set_option maxRecDepth 100000 in
theorem scores_calls {l : List ByteArray} (h : Rd w0 w b c l) : Calls Tryd.prog 51 #[.pointer (some ⟨b, 0, none⟩)] w (PostZ w0 w b (scoresZ c l)) := by
  have hcall := isWord_calls (h.alloc (.cells #[.string wScores] 9)) wScores w.heap.size (by simp)
  have HC := Lib.hid hcall
  clear hcall h
  unfold scoresZ
  generalize hr : isW wScores l = r at HC
  obtain ⟨y, l1⟩ := r
  simp only at HC
  unfold wScores at HC
  by_cases hl : l1.length = 0
  · obtain rfl := List.length_eq_zero_iff.1 hl
    simp only [List.length_nil, if_true]
    clear hr hl
    go_enter Tryd.func51, Tryd.ntmps51
    go_wp2_with fail
    refine HC.out.mono ?_
    rintro e w1 ⟨rfl, h1⟩
    have hpu := h1.1.put (c' := { c with sc := y }) 25 (.bool y) rfl rfl rfl (fun _ _ _ _ => rfl)
    have HE := Lib.hid (ends_ok hpu)
    have hf := h1.1.frozen 25
    obtain ⟨vk, ve, vw, A, n, hB, _⟩ := h1.1.ex
    have hc : w1.cell? ⟨b, 25, none⟩ = some (.bool c.sc) := hB.cell 25
    have HF := Lib.hid ((Fr.below (b := b) (below_box w (.cells #[.string wScores] 9))).trans (Fr.trans h1.fr (Fr.grown (grown_set (grown_refl w1 (some b)) 25 (.bool y)))))
    clear h1 hB hpu
    go_wp2_with fail
    refine HE.out.mono ?_
    rintro e w2 ⟨rfl, h2⟩
    have H2 := Lib.hid h2
    clear h2
    go_wp2
    go_ret
    exact postE_ok H2.out.1 (HF.out.trans H2.out.fr)
  · simp only [if_neg hl]
    have hl' : l1 ≠ [] := fun e => hl (by rw [e]; rfl)
    have HL := Lib.hid hl'
    clear hr hl hl'
    go_enter Tryd.func51, Tryd.ntmps51
    go_wp2_with fail
    refine HC.out.mono ?_
    rintro e w1 ⟨rfl, h1⟩
    have hpu := h1.1.put (c' := { c with sc := y }) 25 (.bool y) rfl rfl rfl (fun _ _ _ _ => rfl)
    have HE := Lib.hid (ends_no hpu HL.out)
    have hf := h1.1.frozen 25
    obtain ⟨vk, ve, vw, A, n, hB, _⟩ := h1.1.ex
    have hc : w1.cell? ⟨b, 25, none⟩ = some (.bool c.sc) := hB.cell 25
    have HF := Lib.hid ((Fr.below (b := b) (below_box w (.cells #[.string wScores] 9))).trans (Fr.trans h1.fr (Fr.grown (grown_set (grown_refl w1 (some b)) 25 (.bool y)))))
    clear h1 hB hpu
    go_wp2_with fail
    refine HE.out.mono ?_
    rintro e w2 ⟨rfl, h2⟩
    have H2 := Lib.hid h2
    clear h2
    unfold badV
    go_wp2
    go_ret
    exact postE_bad (by decide) H2.out.1.bel (HF.out.trans H2.out.fr)
end
end Go.Proofs.YtegmbgjolnbgpaaDoor.P
