/- The reader's methods that take sets. Conditions: each theorem names its own. -/
import Derived.Test.YtegmbgjolnbgpaaDoorCJ
namespace Go.Proofs.YtegmbgjolnbgpaaDoor.P
open Go.RowKit Go.Shelf Go.Proofs.YtegmbgjolnbgpaaDoorW.PrintWords Go.Proofs.YtegmbgjolnbgpaaDoorW.PrintLast Go.Proofs.YtegmbgjolnbgpaaDoorW.PrintMore
attribute [local go_sem] Oper.semAt_some
set_option linter.unusedSimpArgs false

section
variable {w0 w W : World} {b : Nat} {c : Cm}
theorem numE_bd {lo hi n : Int} {s : ByteArray} (h : numE lo hi s = some n) : lo ≤ n ∧ n ≤ hi := by
  unfold numE at h
  split at h
  · rename_i h1
    injection h with h
    rw [← h]
    exact h1.2
  · cases h
def nN (s : ByteArray) : Option Nat := (numE 1 60 s).map Int.toNat
/-- Where a set goes, and the keys of others: how many, what is wrong, the command then, what is left. -/
def setsZ (c : Cm) : List ByteArray → Int × Rz
  | k :: s :: l => if k.size ≤ 64 then
      match nN s with
      | none => (0, bad 173)
      | some n => if l.length < n then (0, bad 172) else ((n : Int), (someE l n, (c.addK [k]).addK (l.take n), l.drop n))
    else (0, bad 172)
  | _ => (0, bad 172)
theorem setsZ_k {k s : ByteArray} {l : List ByteArray} (hk : ¬ k.size ≤ 64) : setsZ c (k :: s :: l) = (0, bad 172) := if_neg hk
theorem setsZ_n {k s : ByteArray} {l : List ByteArray} (hk : k.size ≤ 64) (hn : nN s = none) : setsZ c (k :: s :: l) = (0, bad 173) := by simp [setsZ, hk, hn]
theorem setsZ_l {k s : ByteArray} {l : List ByteArray} {n : Nat} (hk : k.size ≤ 64) (hn : nN s = some n) (h : l.length < n) : setsZ c (k :: s :: l) = (0, bad 172) := by simp [setsZ, hk, hn, h]
theorem setsZ_y {k s : ByteArray} {l : List ByteArray} {n : Nat} (hk : k.size ≤ 64) (hn : nN s = some n) (h : ¬ l.length < n) : setsZ c (k :: s :: l) = ((n : Int), (someE l n, (c.addK [k]).addK (l.take n), l.drop n)) := by simp [setsZ, hk, hn, h]
theorem nN_none {s : ByteArray} (h : nN s = none) : numE 1 60 s = none := by
  unfold nN at h
  cases e : numE 1 60 s with
  | none => rfl
  | some n => rw [e] at h; cases h
theorem nN_some {s : ByteArray} {n : Nat} (h : nN s = some n) : numE 1 60 s = some (n : Int) ∧ 1 ≤ n ∧ n ≤ 60 := by
  unfold nN at h
  cases e : numE 1 60 s with
  | none => rw [e] at h; cases h
  | some m =>
    rw [e] at h
    have hm := numE_bd e
    injection h with h
    subst h
    exact ⟨by rw [show ((m.toNat : Nat) : Int) = m by omega], by omega, by omega⟩
def PostS (w0 w : World) (b : Nat) (r : Int × Rz) (e : Ending) (w' : World) : Prop := e = .returned (.tuple #[.int .i64 r.1, refV r.2.1]) ∧ Below w0.heap.size w0 w' ∧ Fr b w w' ∧ (r.2.1 = 0 → Rd w0 w' b r.2.2.1 r.2.2.2)
theorem At.badS {e : Int} {l : List ByteArray} (h : At w0 w b c l W) (he : e ≠ 0) : PostS w0 w b (0, ((e, zCm, []) : Rz)) (.returned (.tuple #[.int .i64 0, badV e])) W := ⟨by show _ = Ending.returned (.tuple #[.int .i64 0, refV e]); rw [refV_ne he]; rfl, h.1.bel, h.2, fun h => absurd h he⟩
set_option maxHeartbeats 16000000 in
set_option maxRecDepth 100000 in
theorem sets_calls {k s : ByteArray} {l : List ByteArray} (h : Rd w0 w b c (k :: s :: l)) : Calls Tryd.prog 55 #[.pointer (some ⟨b, 0, none⟩)] w (PostS w0 w b (setsZ c (k :: s :: l))) := by
  have HS := Lib.hid h
  have hln : (l.length : Int) < 1000 := by have := h.few.1; simp at this; omega
  clear h
  by_cases hk : k.size ≤ 64
  · cases hn : nN s with
    | none =>
      rw [setsZ_n hk hn]
      have hn1 := nN_none hn
      go_enter Tryd.func55, Tryd.ntmps55
      go_wp2_with fail
      refine (some1_ok HS.out hk).mono ?_
      rintro e w1 ⟨rfl, h1, f1⟩
      have A1 := Lib.hid (show At w0 w b (c.addK [k]) _ w1 from ⟨h1, f1⟩)
      clear h1 f1
      go_wp2_with fail
      refine (number_none A1.out.1 hn1).mono ?_
      rintro e w2 ⟨rfl, h2⟩
      have A2 := Lib.hid (A1.out.st h2)
      clear h2
      unfold badV
      go_wp2
      go_ret2
      exact A2.out.badS (e := 173) (by decide)
    | some n =>
      obtain ⟨hn1, hn2, hn3⟩ := nN_some hn
      by_cases hl : l.length < n
      · rw [setsZ_l hk hn hl]
        have hlz : (l.length : Int) < (n : Int) := by omega
        clear hn hl
        go_enter Tryd.func55, Tryd.ntmps55
        go_wp2_with fail
        refine (some1_ok HS.out hk).mono ?_
        rintro e w1 ⟨rfl, h1, f1⟩
        have A1 := Lib.hid (show At w0 w b (c.addK [k]) _ w1 from ⟨h1, f1⟩)
        clear h1 f1
        go_wp2_with fail
        refine (number_some A1.out.1 hn1).mono ?_
        rintro e w2 ⟨rfl, h2⟩
        have A2 := Lib.hid (A1.out.st h2)
        obtain ⟨A0, n0, hl0⟩ := A2.out.left
        clear h2 A1
        go_wp2_with fail
        refine (first_calls 172 (by decide) _ _ (by rw [World.cell?_alloc_at _ _ _ _ (by simp)]; rfl)).mono ?_
        rintro e w8 ⟨rfl, rfl⟩
        rw [show refV 172 = .iface 74 (.agg #[.int .i64 172]) from rfl]
        go_wp2
        go_ret2
        exact (A2.out.box _).badS (e := 172) (by decide)
      · rw [setsZ_y hk hn hl]
        have hlz : ¬ (l.length : Int) < (n : Int) := by omega
        have hl' : n ≤ l.length := by omega
        clear hn hl
        go_enter Tryd.func55, Tryd.ntmps55
        go_wp2_with fail
        refine (some1_ok HS.out hk).mono ?_
        rintro e w1 ⟨rfl, h1, f1⟩
        have A1 := Lib.hid (show At w0 w b (c.addK [k]) _ w1 from ⟨h1, f1⟩)
        clear h1 f1
        go_wp2_with fail
        refine (number_some A1.out.1 hn1).mono ?_
        rintro e w2 ⟨rfl, h2⟩
        have A2 := Lib.hid (A1.out.st h2)
        obtain ⟨A0, n0, hl0⟩ := A2.out.left
        clear h2 A1
        have HC := Lib.hid (some_calls A2.out.1 n hl')
        go_wp2_with fail
        refine HC.out.mono ?_
        rintro e w3 ⟨rfl, h3, h4, h5⟩
        have H3 := Lib.hid (show _ ∧ _ ∧ _ from ⟨h3, A2.out.2.trans h4, h5⟩)
        clear h3 h4 h5 HC
        generalize hv : refV _ = v
        have HV := Lib.hid hv
        clear hv
        go_wp2
        go_ret2
        exact ⟨congrArg (fun v => Ending.returned (.tuple #[.int .i64 (n : Int), v])) HV.out.symm, H3.out⟩
  · rw [setsZ_k hk]
    go_enter Tryd.func55, Tryd.ntmps55
    go_wp2_with fail
    refine (some1_no HS.out hk).mono ?_
    rintro e w1 ⟨rfl, h1, f1⟩
    have H1 := Lib.hid (show _ ∧ _ from ⟨h1, f1⟩)
    clear h1 f1
    unfold badV
    go_wp2
    go_ret2
    exact ⟨rfl, H1.out.1, H1.out.2, fun h => absurd h (by decide)⟩
/-- What is left must be nothing. -/
def endsZ (c : Cm) (l : List ByteArray) : Rz := if l.length = 0 then (0, c, []) else bad 172
def plainZ (c : Cm) (l : List ByteArray) : Rz := if (setsZ c l).2.1 = 0 then endsZ (setsZ c l).2.2.1 (setsZ c l).2.2.2 else bad (setsZ c l).2.1
theorem setsZ_e (l : List ByteArray) : (setsZ c l).2.1 = 0 ∨ (setsZ c l).2.1 = 172 ∨ (setsZ c l).2.1 = 173 := by
  rcases l with _ | ⟨k, _ | ⟨s, l⟩⟩
  · exact .inr (.inl rfl)
  · exact .inr (.inl rfl)
  · by_cases hk : k.size ≤ 64
    · cases hn : nN s with
      | none => rw [setsZ_n hk hn]; exact .inr (.inr rfl)
      | some n =>
        by_cases hl : l.length < n
        · rw [setsZ_l hk hn hl]; exact .inr (.inl rfl)
        · rw [setsZ_y hk hn hl]
          rcases someE_two l n with h | h
          · exact .inl h
          · exact .inr (.inl h)
    · rw [setsZ_k hk]; exact .inr (.inl rfl)
theorem setsZ_bad (l : List ByteArray) : (setsZ c l).2.1 = 0 ∨ ∃ e, e ≠ 0 ∧ (setsZ c l).2.1 = e := by
  rcases setsZ_e (c := c) l with h | h | h
  · exact .inl h
  · exact .inr ⟨172, by decide, h⟩
  · exact .inr ⟨173, by decide, h⟩
set_option maxHeartbeats 16000000 in
set_option maxRecDepth 100000 in
theorem plain_calls {k s : ByteArray} {l : List ByteArray} (h : Rd w0 w b c (k :: s :: l)) : Calls Tryd.prog 36 #[.pointer (some ⟨b, 0, none⟩)] w (PostZ w0 w b (plainZ c (k :: s :: l))) := by
  have HC := Lib.hid (sets_calls h)
  have hb := setsZ_bad (c := c) (k :: s :: l)
  unfold plainZ
  clear h
  generalize setsZ c (k :: s :: l) = r at HC hb ⊢
  obtain ⟨v, er, cc, L⟩ := r
  simp only at hb ⊢
  rcases hb with he | ⟨x, h0, he⟩
  · rw [if_pos he]
    by_cases hl : L.length = 0
    · obtain rfl := List.length_eq_zero_iff.1 hl
      rw [show endsZ cc [] = (0, cc, []) from rfl]
      clear hl
      go_enter Tryd.func36, Tryd.ntmps36
      go_wp2_with fail
      refine HC.out.mono ?_
      rintro e w1 ⟨rfl, h1, f1, h2⟩
      have A1 := Lib.hid (show At w0 w b cc _ w1 from ⟨h2 he, f1⟩)
      rw [he, show refV 0 = .nilIface from rfl]
      clear h1 f1 h2 HC
      go_wp2_with fail
      refine (ends_ok A1.out.1).mono ?_
      rintro e w2 ⟨rfl, h2⟩
      have A2 := Lib.hid (A1.out.st h2)
      clear h2
      go_wp2
      go_ret
      exact A2.out.ok
    · rw [show endsZ cc L = bad 172 from if_neg hl]
      have HL := Lib.hid (show L ≠ [] from fun e => hl (by rw [e]; rfl))
      clear hl
      go_enter Tryd.func36, Tryd.ntmps36
      go_wp2_with fail
      refine HC.out.mono ?_
      rintro e w1 ⟨rfl, h1, f1, h2⟩
      have A1 := Lib.hid (show At w0 w b cc _ w1 from ⟨h2 he, f1⟩)
      rw [he, show refV 0 = .nilIface from rfl]
      clear h1 f1 h2 HC
      go_wp2_with fail
      refine (ends_no A1.out.1 HL.out).mono ?_
      rintro e w2 ⟨rfl, h2⟩
      have A2 := Lib.hid (A1.out.st h2)
      clear h2
      unfold badV
      go_wp2
      go_ret
      exact A2.out.bad (by decide)
  · rw [if_neg (by rw [he]; exact h0), he]
    go_enter Tryd.func36, Tryd.ntmps36
    go_wp2_with fail
    refine HC.out.mono ?_
    rintro e w1 ⟨rfl, h1, f1, h2⟩
    rw [he, refV_ne h0]
    have H1 := Lib.hid (show _ ∧ _ from ⟨h1, f1⟩)
    clear h1 f1 h2 HC
    go_wp2
    go_ret
    exact postE_bad h0 H1.out.1 H1.out.2
def wWeights : ByteArray := ⟨#[87, 69, 73, 71, 72, 84, 83]⟩
def wAggregate : ByteArray := ⟨#[65, 71, 71, 82, 69, 71, 65, 84, 69]⟩
def wSum : ByteArray := ⟨#[83, 85, 77]⟩
def wMin : ByteArray := ⟨#[77, 73, 78]⟩
def wMax : ByteArray := ⟨#[77, 65, 88]⟩
/-- So many weights: those that are told, or ones. -/
def weighZ (y : Bool) : Nat → Cm → List ByteArray → Rz
  | 0, c, l => (0, c, l)
  | n + 1, c, l => if y = true then
      match l with
      | [] => bad 173
      | s :: l => match numA s with
        | none => bad 173
        | some v => weighZ y n (c.addW [v]) l
    else weighZ y n (c.addW [1]) l
theorem weighZ_no {n : Nat} {l : List ByteArray} : weighZ false (n + 1) c l = weighZ false n (c.addW [1]) l := rfl
theorem weighZ_bad {n : Nat} {s : ByteArray} {l : List ByteArray} (h : numA s = none) : weighZ true (n + 1) c (s :: l) = bad 173 := by rw [weighZ, if_pos rfl]; simp [h]
theorem weighZ_ok {n : Nat} {s : ByteArray} {l : List ByteArray} {v : Int} (h : numA s = some v) : weighZ true (n + 1) c (s :: l) = weighZ true n (c.addW [v]) l := by rw [weighZ, if_pos rfl]; simp [h]
/-- How sets are put together. -/
def aggZ (c : Cm) (l : List ByteArray) : Rz :=
  if (isW wAggregate l).1 = true then
    if (isW wSum (isW wAggregate l).2).1 = true then endsZ c (isW wSum (isW wAggregate l).2).2
    else if (isW wMin (isW wAggregate l).2).1 = true then endsZ { c with agg := 2 } (isW wMin (isW wAggregate l).2).2
    else if (isW wMax (isW wAggregate l).2).1 = true then endsZ { c with agg := 3 } (isW wMax (isW wAggregate l).2).2
    else bad 172
  else endsZ c l
theorem isW_no {W : ByteArray} {l : List ByteArray} (h : (isW W l).1 = false) : (isW W l).2 = l := by
  cases l with
  | nil => rfl
  | cons s t =>
    by_cases hq : up s = W.data.toList
    · rw [show isW W (s :: t) = (true, t) from if_pos hq] at h
      cases h
    · rw [show isW W (s :: t) = (false, s :: t) from if_neg hq]
theorem setsZ_ws (l : List ByteArray) (h : (setsZ c l).2.1 = 0) : (setsZ c l).2.2.1.ws = c.ws := by
  rcases l with _ | ⟨k, _ | ⟨s, l⟩⟩
  · cases h
  · cases h
  · by_cases hk : k.size ≤ 64
    · cases hn : nN s with
      | none => rw [setsZ_n hk hn] at h; cases h
      | some n =>
        by_cases hl : l.length < n
        · rw [setsZ_l hk hn hl] at h; cases h
        · rw [setsZ_y hk hn hl]; rfl
    · rw [setsZ_k hk] at h; cases h
def backZ (r : Rz) : Rz := if r.1 = 0 then aggZ r.2.1 r.2.2 else bad r.1
def weightedZ (c : Cm) (l : List ByteArray) : Rz :=
  if (setsZ c l).2.1 = 0 then
    if (isW wWeights (setsZ c l).2.2.2).1 = true ∧ (isW wWeights (setsZ c l).2.2.2).2.length < (setsZ c l).1.toNat then bad 172
    else backZ (weighZ (isW wWeights (setsZ c l).2.2.2).1 (setsZ c l).1.toNat { (setsZ c l).2.2.1 with agg := 1 } (isW wWeights (setsZ c l).2.2.2).2)
  else bad (setsZ c l).2.1
theorem setsZ_v (l : List ByteArray) : 0 ≤ (setsZ c l).1 ∧ (setsZ c l).1 ≤ 60 := by
  rcases l with _ | ⟨k, _ | ⟨s, l⟩⟩
  · exact (show (0 : Int) ≤ 0 ∧ (0 : Int) ≤ 60 by omega)
  · exact (show (0 : Int) ≤ 0 ∧ (0 : Int) ≤ 60 by omega)
  · by_cases hk : k.size ≤ 64
    · cases hn : nN s with
      | none => rw [setsZ_n hk hn]; exact (show (0 : Int) ≤ 0 ∧ (0 : Int) ≤ 60 by omega)
      | some n =>
        by_cases hl : l.length < n
        · rw [setsZ_l hk hn hl]; exact (show (0 : Int) ≤ 0 ∧ (0 : Int) ≤ 60 by omega)
        · rw [setsZ_y hk hn hl]
          have := nN_some hn
          simp only
          omega
    · rw [setsZ_k hk]; exact (show (0 : Int) ≤ 0 ∧ (0 : Int) ≤ 60 by omega)
set_option maxHeartbeats 16000000 in
set_option maxRecDepth 100000 in
theorem weighted_calls {k s : ByteArray} {l : List ByteArray} (h : Rd w0 w b c (k :: s :: l)) (hws : c.ws = []) : Calls Tryd.prog 35 #[.pointer (some ⟨b, 0, none⟩)] w (PostZ w0 w b (weightedZ c (k :: s :: l))) := by
  have HC := Lib.hid (sets_calls h)
  have hb := setsZ_bad (c := c) (k :: s :: l)
  have hv := setsZ_v (c := c) (k :: s :: l)
  have hw0 : (setsZ c (k :: s :: l)).2.1 = 0 → (setsZ c (k :: s :: l)).2.2.1.ws = [] := fun he => (setsZ_ws _ he).trans hws
  unfold weightedZ
  clear h hws
  generalize setsZ c (k :: s :: l) = r at HC hb hv hw0 ⊢
  obtain ⟨v, er, cc, L⟩ := r
  simp only at hb hv hw0 ⊢
  obtain ⟨N, rfl⟩ : ∃ N : Nat, v = (N : Int) := ⟨v.toNat, by omega⟩
  rw [Int.toNat_natCast]
  have hN : (N : Int) ≤ 60 := hv.2
  clear hv
  rcases hb with he | ⟨x, h0, he⟩
  · rw [if_pos he]
    have HW0 := Lib.hid (hw0 he)
    have HIW := Lib.hid (fun (W : World) (B : Nat) (hW : W.cell? ⟨B, 0, none⟩ = some (.string wWeights)) (hR : Rd w0 W b { cc with agg := 1 } L) => isWord_calls hR wWeights B hW)
    generalize hy : isW wWeights L = yl at HIW ⊢
    obtain ⟨y, L1⟩ := yl
    simp only at HIW ⊢
    clear hw0 hy
    by_cases hbad : y = true ∧ L1.length < N
    · rw [if_pos hbad]
      obtain ⟨rfl, hlt⟩ := hbad
      have hltz : (L1.length : Int) < (N : Int) := by omega
      clear hlt
      go_enter Tryd.func35, Tryd.ntmps35
      go_wp2_with fail
      refine HC.out.mono ?_
      rintro e w1 ⟨rfl, h1, f1, h2⟩
      have A1 := Lib.hid (show At w0 w b cc _ w1 from ⟨h2 he, f1⟩)
      rw [he, show refV 0 = .nilIface from rfl]
      clear h1 f1 h2 HC
      have hca := A1.out.cell 27 (.int .i64 cc.agg) (fun _ _ _ _ => rfl)
      have hfa := A1.out.frozen 27
      have A2 := Lib.hid ((A1.out.put (c' := { cc with agg := 1 }) 27 (.int .i64 1) rfl rfl rfl (fun _ _ _ _ => rfl)).box (.cells #[.string wWeights] 9))
      clear A1
      go_wp2_with fail
      clear hca hfa
      refine (HIW.out _ _ (World.cell?_alloc_at _ _ _ _ (by simp) |>.trans rfl) A2.out.1).mono ?_
      rintro e w3 ⟨rfl, h3⟩
      have A3 := Lib.hid (A2.out.st h3)
      obtain ⟨A0, n0, hl0⟩ := A3.out.left
      clear h3 A2
      go_wp2_with fail
      refine (first_calls 172 (by decide) _ _ (by rw [World.cell?_alloc_at _ _ _ _ (by simp)]; rfl)).mono ?_
      rintro e w8 ⟨rfl, rfl⟩
      rw [show refV 172 = .iface 74 (.agg #[.int .i64 172]) from rfl]
      go_wp2
      go_ret
      exact (A3.out.box _).bad (by decide)
    · rw [if_neg hbad]
      have HB := Lib.hid hbad
      clear hbad
      generalize hR : backZ (weighZ y N { cc with agg := 1 } L1) = R
      have HR := Lib.hid hR
      clear hR
      cases y with
      | true =>
        have hlen1 : N ≤ L1.length := by have := HB.out; simp at this; exact this
        have hltz : ¬ (L1.length : Int) < (N : Int) := by omega
        have hltd : decide (L1.length < N) = false := decide_eq_false (by omega)
        go_enter Tryd.func35, Tryd.ntmps35
        go_wp2_with fail
        refine HC.out.mono ?_
        rintro e w1 ⟨rfl, h1, f1, h2⟩
        have A1 := Lib.hid (show At w0 w b cc _ w1 from ⟨h2 he, f1⟩)
        rw [he, show refV 0 = .nilIface from rfl]
        clear h1 f1 h2 HC
        have hca := A1.out.cell 27 (.int .i64 cc.agg) (fun _ _ _ _ => rfl)
        have hfa := A1.out.frozen 27
        have A2 := Lib.hid ((A1.out.put (c' := { cc with agg := 1 }) 27 (.int .i64 1) rfl rfl rfl (fun _ _ _ _ => rfl)).box (.cells #[.string wWeights] 9))
        clear A1
        go_wp2_with fail
        clear hca hfa
        refine (HIW.out _ _ (World.cell?_alloc_at _ _ _ _ (by simp) |>.trans rfl) A2.out.1).mono ?_
        rintro e w3 ⟨rfl, h3⟩
        have A3 := Lib.hid (A2.out.st h3)
        obtain ⟨A0, n0, hl0⟩ := A3.out.left
        clear h3 A2
        go_wp2
        clear hl0
        go_loopg [35] N (fun gg v35 wr => ∃ (j : Nat) (c' : Cm) (l' : List ByteArray), v35 = .int .i64 j ∧ j ≤ N ∧ N - j ≤ gg ∧ c'.ws.length = j ∧ Aside0 (At w0 w b c' l' wr ∧ backZ (weighZ true (N - j) c' l') = R) ∧ N - j ≤ l'.length)
        case atStart => exact ⟨0, _, L1, rfl, Nat.zero_le _, by omega, by show cc.ws.length = 0; rw [HW0.out]; rfl, ⟨A3.out, HR.out⟩, by omega⟩
        case round =>
          obtain ⟨j, c', l', rfl, hj, hg, hws, HA, hlen⟩ := hrel
          by_cases hjN : j < N
          · have hjz : (j : Int) < (N : Int) := by omega
            rcases l' with _ | ⟨s1, l2⟩
            · simp at hlen; omega
            · rw [List.length_cons] at hlen
              have hNj : N - j = (N - (j + 1)) + 1 := by omega
              cases hnu : numA s1 with
              | none =>
                have HQ := Lib.hid (show bad 173 = R from by have := HA.out.2; rw [hNj, weighZ_bad hnu] at this; exact this)
                go_wp2_with fail
                refine (whole_none HA.out.1.1 hnu).mono ?_
                rintro e w4 ⟨rfl, h4⟩
                have A4 := Lib.hid (HA.out.1.st h4)
                clear h4
                unfold badV
                go_wp2
                go_ret
                rw [← HQ.out]
                exact A4.out.bad (by decide)
              | some v =>
                have HQ := Lib.hid (show backZ (weighZ true (N - (j + 1)) (c'.addW [v]) l2) = R from by have := HA.out.2; rw [hNj, weighZ_ok hnu] at this; exact this)
                clear hNj
                go_wp2_with fail
                refine (whole_some HA.out.1.1 hnu).mono ?_
                rintro e w4 ⟨rfl, h4⟩
                have A4 := Lib.hid (HA.out.1.st h4)
                clear h4 hnu
                obtain ⟨vk, ve, vw, A9, n9, X⟩ := A4.out.1.open_
                have hc28 : w4.cell? ⟨b, 28, none⟩ = some vw := X.blk.cell 28
                have HX := Aside0.mk X
                have hszb : w0.heap.size ≤ w4.heap.size := X.bel.size
                clear X
                go_wp2_with (first | ((with_reducible refine gate_builtin (b := .append) (xs := #[.tmp 51, .tmp 53]) rfl ?_); at_builtin; refine append_W w4 rfl (.tmp 51) (.tmp 53) rfl w0.heap.size vw c'.ws v rfl rfl HX.out.W hszb (by omega) ?_; intro v1 w5 hR5 hg5; obtain ⟨p1, p3⟩ := (HX.out.below (below_box w4 (.cells #[.int .i64 v] 2))).pushW hg5 hR5 (by omega); have bb5 := p3 b _ _ (HX.out.blk.alloc _) (by decide); have FF := fun B T cs (hB : Blk w4 B T cs) hT => p3 B T cs (hB.alloc _) hT; obtain ⟨A1, m1, hv1⟩ := Kd.R_slice hR5; generalize (c'.ws ++ [(v : Int)]).length = mm at hv1; have HP := Aside0.mk (And.intro p1 FF); clear p1 p3 hR5 hg5 FF; subst hv1; have hf5 := bb5.frozen 28; have hc5 : w5.cell? ⟨b, 28, none⟩ = some vw := bb5.cell 28; clear bb5))
                go_roundg (N - (j + 1))
                case measure => omega
                case rel => exact ⟨j + 1, c'.addW [v], l2, by go_num, by omega, by omega, by show (c'.ws ++ [v]).length = j + 1; rw [List.length_append, hws]; rfl, ⟨⟨HP.out.1, A4.out.2.trans (fun B T cs hB g0 g1 g2 g3 => (HP.out.2 B T cs hB g3).other g0 28 _)⟩, HQ.out⟩, by omega⟩
          · have hjz : ¬ (j : Int) < (N : Int) := by omega
            have HQ0 := Lib.hid (show aggZ c' l' = R from by have := HA.out.2; rwa [show N - j = 0 by omega] at this)
            have HAa := Lib.hid HA.out.1
            clear hlen
            by_cases hyA : (isW wAggregate l').1 = true
            · by_cases hyS : (isW wSum (isW wAggregate l').2).1 = true
              · have HT := Lib.hid (show endsZ c' (isW wSum (isW wAggregate l').2).2 = R from by rw [← HQ0.out]; unfold aggZ; rw [if_pos hyA, if_pos hyS])
                go_wp2_with fail
                refine (isWord_yes (HAa.out.box (.cells #[.string wAggregate] 9)).1 wAggregate _ (by rw [World.cell?_alloc_at _ _ _ _ (by simp)]; rfl) hyA).mono ?_
                rintro e wa ⟨rfl, h9⟩
                have Ba := Lib.hid ((HAa.out.box (.cells #[.string wAggregate] 9)).st h9)
                clear h9
                go_wp2_with fail
                refine (isWord_yes (Ba.out.box (.cells #[.string wSum] 9)).1 wSum _ (by rw [World.cell?_alloc_at _ _ _ _ (by simp)]; rfl) hyS).mono ?_
                rintro e wb ⟨rfl, h9⟩
                have Bb := Lib.hid ((Ba.out.box (.cells #[.string wSum] 9)).st h9)
                clear h9
                by_cases hl0 : (isW wSum (isW wAggregate l').2).2 = []
                · have HQ := Lib.hid (show (0, c', []) = R from by rw [← HT.out, hl0]; rfl)
                  have AE := Lib.hid (show At w0 w b c' [] _ from by have := Bb.out; rwa [hl0] at this)
                  clear hl0
                  go_wp2_with fail
                  refine (ends_ok AE.out.1).mono ?_
                  rintro e w9 ⟨rfl, h9⟩
                  have A9 := Lib.hid (AE.out.st h9)
                  clear h9
                  go_wp2
                  go_ret
                  rw [← HQ.out]
                  exact A9.out.ok
                · have HQ := Lib.hid (show bad 172 = R from by rw [← HT.out]; exact (if_neg (fun e => hl0 (List.length_eq_zero_iff.1 e))).symm)
                  have HL0 := Lib.hid hl0
                  clear hl0
                  go_wp2_with fail
                  refine (ends_no Bb.out.1 HL0.out).mono ?_
                  rintro e w9 ⟨rfl, h9⟩
                  have A9 := Lib.hid (Bb.out.st h9)
                  clear h9
                  unfold badV
                  go_wp2
                  go_ret
                  rw [← HQ.out]
                  exact A9.out.bad (by decide)
              · have hySn : (isW wSum (isW wAggregate l').2).1 = false := by simpa using hyS
                by_cases hyN : (isW wMin (isW wAggregate l').2).1 = true
                · have HT := Lib.hid (show endsZ { c' with agg := 2 } (isW wMin (isW wAggregate l').2).2 = R from by rw [← HQ0.out]; unfold aggZ; rw [if_pos hyA, if_neg hyS, if_pos hyN])
                  go_wp2_with fail
                  refine (isWord_yes (HAa.out.box (.cells #[.string wAggregate] 9)).1 wAggregate _ (by rw [World.cell?_alloc_at _ _ _ _ (by simp)]; rfl) hyA).mono ?_
                  rintro e wa ⟨rfl, h9⟩
                  have Ba := Lib.hid ((HAa.out.box (.cells #[.string wAggregate] 9)).st h9)
                  clear h9
                  go_wp2_with fail
                  refine (isWord_no (Ba.out.box (.cells #[.string wSum] 9)).1 wSum _ (by rw [World.cell?_alloc_at _ _ _ _ (by simp)]; rfl) hySn).mono ?_
                  rintro e wb ⟨rfl, h9⟩
                  have Bb := Lib.hid ((Ba.out.box (.cells #[.string wSum] 9)).st h9)
                  clear h9
                  have Bc := Lib.hid (show At w0 w b c' (isW wAggregate l').2 wb from by have := Bb.out; rwa [isW_no hySn] at this)
                  go_wp2_with fail
                  refine (isWord_yes (Bc.out.box (.cells #[.string wMin] 9)).1 wMin _ (by rw [World.cell?_alloc_at _ _ _ _ (by simp)]; rfl) hyN).mono ?_
                  rintro e wd ⟨rfl, h9⟩
                  have Bd := Lib.hid ((Bc.out.box (.cells #[.string wMin] 9)).st h9)
                  clear h9
                  have hca := Bd.out.cell 27 (.int .i64 c'.agg) (fun _ _ _ _ => rfl)
                  have hfa := Bd.out.frozen 27
                  have Be := Lib.hid (Bd.out.put (c' := { c' with agg := 2 }) 27 (.int .i64 2) rfl rfl rfl (fun _ _ _ _ => rfl))
                  go_wp2_with fail
                  clear hca hfa
                  by_cases hl0 : (isW wMin (isW wAggregate l').2).2 = []
                  · have HQ := Lib.hid (show (0, { c' with agg := 2 }, []) = R from by rw [← HT.out, hl0]; rfl)
                    have AE := Lib.hid (show At w0 w b { c' with agg := 2 } [] _ from by have := Be.out; rwa [hl0] at this)
                    clear hl0
                    go_wp2_with fail
                    refine (ends_ok AE.out.1).mono ?_
                    rintro e w9 ⟨rfl, h9⟩
                    have A9 := Lib.hid (AE.out.st h9)
                    clear h9
                    go_wp2
                    go_ret
                    rw [← HQ.out]
                    exact A9.out.ok
                  · have HQ := Lib.hid (show bad 172 = R from by rw [← HT.out]; exact (if_neg (fun e => hl0 (List.length_eq_zero_iff.1 e))).symm)
                    have HL0 := Lib.hid hl0
                    clear hl0
                    go_wp2_with fail
                    refine (ends_no Be.out.1 HL0.out).mono ?_
                    rintro e w9 ⟨rfl, h9⟩
                    have A9 := Lib.hid (Be.out.st h9)
                    clear h9
                    unfold badV
                    go_wp2
                    go_ret
                    rw [← HQ.out]
                    exact A9.out.bad (by decide)
                · have hyNn : (isW wMin (isW wAggregate l').2).1 = false := by simpa using hyN
                  by_cases hyX : (isW wMax (isW wAggregate l').2).1 = true
                  · have HT := Lib.hid (show endsZ { c' with agg := 3 } (isW wMax (isW wAggregate l').2).2 = R from by rw [← HQ0.out]; unfold aggZ; rw [if_pos hyA, if_neg hyS, if_neg hyN, if_pos hyX])
                    go_wp2_with fail
                    refine (isWord_yes (HAa.out.box (.cells #[.string wAggregate] 9)).1 wAggregate _ (by rw [World.cell?_alloc_at _ _ _ _ (by simp)]; rfl) hyA).mono ?_
                    rintro e wa ⟨rfl, h9⟩
                    have Ba := Lib.hid ((HAa.out.box (.cells #[.string wAggregate] 9)).st h9)
                    clear h9
                    go_wp2_with fail
                    refine (isWord_no (Ba.out.box (.cells #[.string wSum] 9)).1 wSum _ (by rw [World.cell?_alloc_at _ _ _ _ (by simp)]; rfl) hySn).mono ?_
                    rintro e wb ⟨rfl, h9⟩
                    have Bb := Lib.hid ((Ba.out.box (.cells #[.string wSum] 9)).st h9)
                    clear h9
                    have Bc := Lib.hid (show At w0 w b c' (isW wAggregate l').2 wb from by have := Bb.out; rwa [isW_no hySn] at this)
                    go_wp2_with fail
                    refine (isWord_no (Bc.out.box (.cells #[.string wMin] 9)).1 wMin _ (by rw [World.cell?_alloc_at _ _ _ _ (by simp)]; rfl) hyNn).mono ?_
                    rintro e wd ⟨rfl, h9⟩
                    have Bd := Lib.hid ((Bc.out.box (.cells #[.string wMin] 9)).st h9)
                    clear h9
                    have Be := Lib.hid (show At w0 w b c' (isW wAggregate l').2 wd from by have := Bd.out; rwa [isW_no hyNn] at this)
                    go_wp2_with fail
                    refine (isWord_yes (Be.out.box (.cells #[.string wMax] 9)).1 wMax _ (by rw [World.cell?_alloc_at _ _ _ _ (by simp)]; rfl) hyX).mono ?_
                    rintro e wf ⟨rfl, h9⟩
                    have Bf := Lib.hid ((Be.out.box (.cells #[.string wMax] 9)).st h9)
                    clear h9
                    have hca := Bf.out.cell 27 (.int .i64 c'.agg) (fun _ _ _ _ => rfl)
                    have hfa := Bf.out.frozen 27
                    have Bg := Lib.hid (Bf.out.put (c' := { c' with agg := 3 }) 27 (.int .i64 3) rfl rfl rfl (fun _ _ _ _ => rfl))
                    go_wp2_with fail
                    clear hca hfa
                    by_cases hl0 : (isW wMax (isW wAggregate l').2).2 = []
                    · have HQ := Lib.hid (show (0, { c' with agg := 3 }, []) = R from by rw [← HT.out, hl0]; rfl)
                      have AE := Lib.hid (show At w0 w b { c' with agg := 3 } [] _ from by have := Bg.out; rwa [hl0] at this)
                      clear hl0
                      go_wp2_with fail
                      refine (ends_ok AE.out.1).mono ?_
                      rintro e w9 ⟨rfl, h9⟩
                      have A9 := Lib.hid (AE.out.st h9)
                      clear h9
                      go_wp2
                      go_ret
                      rw [← HQ.out]
                      exact A9.out.ok
                    · have HQ := Lib.hid (show bad 172 = R from by rw [← HT.out]; exact (if_neg (fun e => hl0 (List.length_eq_zero_iff.1 e))).symm)
                      have HL0 := Lib.hid hl0
                      clear hl0
                      go_wp2_with fail
                      refine (ends_no Bg.out.1 HL0.out).mono ?_
                      rintro e w9 ⟨rfl, h9⟩
                      have A9 := Lib.hid (Bg.out.st h9)
                      clear h9
                      unfold badV
                      go_wp2
                      go_ret
                      rw [← HQ.out]
                      exact A9.out.bad (by decide)
                  · have hyXn : (isW wMax (isW wAggregate l').2).1 = false := by simpa using hyX
                    have HT := Lib.hid (show bad 172 = R from by rw [← HQ0.out]; unfold aggZ; rw [if_pos hyA, if_neg hyS, if_neg hyN, if_neg hyX])
                    go_wp2_with fail
                    refine (isWord_yes (HAa.out.box (.cells #[.string wAggregate] 9)).1 wAggregate _ (by rw [World.cell?_alloc_at _ _ _ _ (by simp)]; rfl) hyA).mono ?_
                    rintro e wa ⟨rfl, h9⟩
                    have Ba := Lib.hid ((HAa.out.box (.cells #[.string wAggregate] 9)).st h9)
                    clear h9
                    go_wp2_with fail
                    refine (isWord_no (Ba.out.box (.cells #[.string wSum] 9)).1 wSum _ (by rw [World.cell?_alloc_at _ _ _ _ (by simp)]; rfl) hySn).mono ?_
                    rintro e wb ⟨rfl, h9⟩
                    have Bb := Lib.hid ((Ba.out.box (.cells #[.string wSum] 9)).st h9)
                    clear h9
                    have Bc := Lib.hid (show At w0 w b c' (isW wAggregate l').2 wb from by have := Bb.out; rwa [isW_no hySn] at this)
                    go_wp2_with fail
                    refine (isWord_no (Bc.out.box (.cells #[.string wMin] 9)).1 wMin _ (by rw [World.cell?_alloc_at _ _ _ _ (by simp)]; rfl) hyNn).mono ?_
                    rintro e wd ⟨rfl, h9⟩
                    have Bd := Lib.hid ((Bc.out.box (.cells #[.string wMin] 9)).st h9)
                    clear h9
                    have Be := Lib.hid (show At w0 w b c' (isW wAggregate l').2 wd from by have := Bd.out; rwa [isW_no hyNn] at this)
                    go_wp2_with fail
                    refine (isWord_no (Be.out.box (.cells #[.string wMax] 9)).1 wMax _ (by rw [World.cell?_alloc_at _ _ _ _ (by simp)]; rfl) hyXn).mono ?_
                    rintro e wf ⟨rfl, h9⟩
                    have Bf := Lib.hid ((Be.out.box (.cells #[.string wMax] 9)).st h9)
                    clear h9
                    go_wp2_with fail
                    refine (first_calls 172 (by decide) _ _ (by rw [World.cell?_alloc_at _ _ _ _ (by simp)]; rfl)).mono ?_
                    rintro e w8 ⟨rfl, rfl⟩
                    rw [show refV 172 = .iface 74 (.agg #[.int .i64 172]) from rfl]
                    go_wp2
                    go_ret
                    rw [← HT.out]
                    exact (Bf.out.box _).bad (by decide)
            · have hyA : (isW wAggregate l').1 = false := by simpa using hyA
              go_wp2_with fail
              refine (isWord_no (HAa.out.box (.cells #[.string wAggregate] 9)).1 wAggregate _ (by rw [World.cell?_alloc_at _ _ _ _ (by simp)]; rfl) hyA).mono ?_
              rintro e wa ⟨rfl, h9⟩
              have Ba := Lib.hid ((HAa.out.box (.cells #[.string wAggregate] 9)).st h9)
              clear h9
              have HT := Lib.hid (show endsZ c' (isW wAggregate l').2 = R from by rw [← HQ0.out, isW_no hyA]; unfold aggZ; rw [if_neg (by rw [hyA]; decide)])
              by_cases hl0 : (isW wAggregate l').2 = []
              · have HQ := Lib.hid (show (0, c', []) = R from by rw [← HT.out, hl0]; rfl)
                have AE := Lib.hid (show At w0 w b c' [] _ from by have := Ba.out; rwa [hl0] at this)
                clear hl0
                go_wp2_with fail
                refine (ends_ok AE.out.1).mono ?_
                rintro e w9 ⟨rfl, h9⟩
                have A9 := Lib.hid (AE.out.st h9)
                clear h9
                go_wp2
                go_ret
                rw [← HQ.out]
                exact A9.out.ok
              · have HQ := Lib.hid (show bad 172 = R from by rw [← HT.out]; exact (if_neg (fun e => hl0 (List.length_eq_zero_iff.1 e))).symm)
                have HL0 := Lib.hid hl0
                clear hl0
                go_wp2_with fail
                refine (ends_no Ba.out.1 HL0.out).mono ?_
                rintro e w9 ⟨rfl, h9⟩
                have A9 := Lib.hid (Ba.out.st h9)
                clear h9
                unfold badV
                go_wp2
                go_ret
                rw [← HQ.out]
                exact A9.out.bad (by decide)
      | false =>
        go_enter Tryd.func35, Tryd.ntmps35
        go_wp2_with fail
        refine HC.out.mono ?_
        rintro e w1 ⟨rfl, h1, f1, h2⟩
        have A1 := Lib.hid (show At w0 w b cc _ w1 from ⟨h2 he, f1⟩)
        rw [he, show refV 0 = .nilIface from rfl]
        clear h1 f1 h2 HC
        have hca := A1.out.cell 27 (.int .i64 cc.agg) (fun _ _ _ _ => rfl)
        have hfa := A1.out.frozen 27
        have A2 := Lib.hid ((A1.out.put (c' := { cc with agg := 1 }) 27 (.int .i64 1) rfl rfl rfl (fun _ _ _ _ => rfl)).box (.cells #[.string wWeights] 9))
        clear A1
        go_wp2_with fail
        clear hca hfa
        refine (HIW.out _ _ (World.cell?_alloc_at _ _ _ _ (by simp) |>.trans rfl) A2.out.1).mono ?_
        rintro e w3 ⟨rfl, h3⟩
        have A3 := Lib.hid (A2.out.st h3)
        obtain ⟨A0, n0, hl0⟩ := A3.out.left
        clear h3 A2
        go_wp2
        clear hl0
        go_loopg [35] N (fun gg v35 wr => ∃ (j : Nat) (c' : Cm) (l' : List ByteArray), v35 = .int .i64 j ∧ j ≤ N ∧ N - j ≤ gg ∧ c'.ws.length = j ∧ Aside0 (At w0 w b c' l' wr ∧ backZ (weighZ false (N - j) c' l') = R) ∧ True)
        case atStart => exact ⟨0, _, L1, rfl, Nat.zero_le _, by omega, by show cc.ws.length = 0; rw [HW0.out]; rfl, ⟨A3.out, HR.out⟩, trivial⟩
        case round =>
          obtain ⟨j, c', l', rfl, hj, hg, hws, HA, hlen⟩ := hrel
          by_cases hjN : j < N
          · have hjz : (j : Int) < (N : Int) := by omega
            have hNj : N - j = (N - (j + 1)) + 1 := by omega
            have HQ := Lib.hid (show backZ (weighZ false (N - (j + 1)) (c'.addW [1]) l') = R from by have := HA.out.2; rw [hNj, weighZ_no] at this; exact this)
            have A4 := Lib.hid HA.out.1
            clear hNj
            obtain ⟨vk, ve, vw, A9, n9, X⟩ := A4.out.1.open_
            have hc28 : wr.cell? ⟨b, 28, none⟩ = some vw := X.blk.cell 28
            have HX := Aside0.mk X
            have hszb : w0.heap.size ≤ wr.heap.size := X.bel.size
            clear X
            go_wp2_with (first | ((with_reducible refine gate_builtin (b := .append) (xs := #[.tmp 51, .tmp 53]) rfl ?_); at_builtin; refine append_W wr rfl (.tmp 51) (.tmp 53) rfl w0.heap.size vw c'.ws 1 rfl rfl HX.out.W hszb (by omega) ?_; intro v1 w5 hR5 hg5; obtain ⟨p1, p3⟩ := (HX.out.below (below_box wr (.cells #[.int .i64 1] 2))).pushW hg5 hR5 (by omega); have bb5 := p3 b _ _ (HX.out.blk.alloc _) (by decide); have FF := fun B T cs (hB : Blk wr B T cs) hT => p3 B T cs (hB.alloc _) hT; obtain ⟨A1, m1, hv1⟩ := Kd.R_slice hR5; generalize (c'.ws ++ [(1 : Int)]).length = mm at hv1; have HP := Aside0.mk (And.intro p1 FF); clear p1 p3 hR5 hg5 FF; subst hv1; have hf5 := bb5.frozen 28; have hc5 : w5.cell? ⟨b, 28, none⟩ = some vw := bb5.cell 28; clear bb5))
            go_roundg (N - (j + 1))
            case measure => omega
            case rel => exact ⟨j + 1, c'.addW [1], l', by go_num, by omega, by omega, by show (c'.ws ++ [1]).length = j + 1; rw [List.length_append, hws]; rfl, ⟨⟨HP.out.1, A4.out.2.trans (fun B T cs hB g0 g1 g2 g3 => (HP.out.2 B T cs hB g3).other g0 28 _)⟩, HQ.out⟩, trivial⟩
          · have hjz : ¬ (j : Int) < (N : Int) := by omega
            have HQ0 := Lib.hid (show aggZ c' l' = R from by have := HA.out.2; rwa [show N - j = 0 by omega] at this)
            have HAa := Lib.hid HA.out.1
            clear hlen
            by_cases hyA : (isW wAggregate l').1 = true
            · by_cases hyS : (isW wSum (isW wAggregate l').2).1 = true
              · have HT := Lib.hid (show endsZ c' (isW wSum (isW wAggregate l').2).2 = R from by rw [← HQ0.out]; unfold aggZ; rw [if_pos hyA, if_pos hyS])
                go_wp2_with fail
                refine (isWord_yes (HAa.out.box (.cells #[.string wAggregate] 9)).1 wAggregate _ (by rw [World.cell?_alloc_at _ _ _ _ (by simp)]; rfl) hyA).mono ?_
                rintro e wa ⟨rfl, h9⟩
                have Ba := Lib.hid ((HAa.out.box (.cells #[.string wAggregate] 9)).st h9)
                clear h9
                go_wp2_with fail
                refine (isWord_yes (Ba.out.box (.cells #[.string wSum] 9)).1 wSum _ (by rw [World.cell?_alloc_at _ _ _ _ (by simp)]; rfl) hyS).mono ?_
                rintro e wb ⟨rfl, h9⟩
                have Bb := Lib.hid ((Ba.out.box (.cells #[.string wSum] 9)).st h9)
                clear h9
                by_cases hl0 : (isW wSum (isW wAggregate l').2).2 = []
                · have HQ := Lib.hid (show (0, c', []) = R from by rw [← HT.out, hl0]; rfl)
                  have AE := Lib.hid (show At w0 w b c' [] _ from by have := Bb.out; rwa [hl0] at this)
                  clear hl0
                  go_wp2_with fail
                  refine (ends_ok AE.out.1).mono ?_
                  rintro e w9 ⟨rfl, h9⟩
                  have A9 := Lib.hid (AE.out.st h9)
                  clear h9
                  go_wp2
                  go_ret
                  rw [← HQ.out]
                  exact A9.out.ok
                · have HQ := Lib.hid (show bad 172 = R from by rw [← HT.out]; exact (if_neg (fun e => hl0 (List.length_eq_zero_iff.1 e))).symm)
                  have HL0 := Lib.hid hl0
                  clear hl0
                  go_wp2_with fail
                  refine (ends_no Bb.out.1 HL0.out).mono ?_
                  rintro e w9 ⟨rfl, h9⟩
                  have A9 := Lib.hid (Bb.out.st h9)
                  clear h9
                  unfold badV
                  go_wp2
                  go_ret
                  rw [← HQ.out]
                  exact A9.out.bad (by decide)
              · have hySn : (isW wSum (isW wAggregate l').2).1 = false := by simpa using hyS
                by_cases hyN : (isW wMin (isW wAggregate l').2).1 = true
                · have HT := Lib.hid (show endsZ { c' with agg := 2 } (isW wMin (isW wAggregate l').2).2 = R from by rw [← HQ0.out]; unfold aggZ; rw [if_pos hyA, if_neg hyS, if_pos hyN])
                  go_wp2_with fail
                  refine (isWord_yes (HAa.out.box (.cells #[.string wAggregate] 9)).1 wAggregate _ (by rw [World.cell?_alloc_at _ _ _ _ (by simp)]; rfl) hyA).mono ?_
                  rintro e wa ⟨rfl, h9⟩
                  have Ba := Lib.hid ((HAa.out.box (.cells #[.string wAggregate] 9)).st h9)
                  clear h9
                  go_wp2_with fail
                  refine (isWord_no (Ba.out.box (.cells #[.string wSum] 9)).1 wSum _ (by rw [World.cell?_alloc_at _ _ _ _ (by simp)]; rfl) hySn).mono ?_
                  rintro e wb ⟨rfl, h9⟩
                  have Bb := Lib.hid ((Ba.out.box (.cells #[.string wSum] 9)).st h9)
                  clear h9
                  have Bc := Lib.hid (show At w0 w b c' (isW wAggregate l').2 wb from by have := Bb.out; rwa [isW_no hySn] at this)
                  go_wp2_with fail
                  refine (isWord_yes (Bc.out.box (.cells #[.string wMin] 9)).1 wMin _ (by rw [World.cell?_alloc_at _ _ _ _ (by simp)]; rfl) hyN).mono ?_
                  rintro e wd ⟨rfl, h9⟩
                  have Bd := Lib.hid ((Bc.out.box (.cells #[.string wMin] 9)).st h9)
                  clear h9
                  have hca := Bd.out.cell 27 (.int .i64 c'.agg) (fun _ _ _ _ => rfl)
                  have hfa := Bd.out.frozen 27
                  have Be := Lib.hid (Bd.out.put (c' := { c' with agg := 2 }) 27 (.int .i64 2) rfl rfl rfl (fun _ _ _ _ => rfl))
                  go_wp2_with fail
                  clear hca hfa
                  by_cases hl0 : (isW wMin (isW wAggregate l').2).2 = []
                  · have HQ := Lib.hid (show (0, { c' with agg := 2 }, []) = R from by rw [← HT.out, hl0]; rfl)
                    have AE := Lib.hid (show At w0 w b { c' with agg := 2 } [] _ from by have := Be.out; rwa [hl0] at this)
                    clear hl0
                    go_wp2_with fail
                    refine (ends_ok AE.out.1).mono ?_
                    rintro e w9 ⟨rfl, h9⟩
                    have A9 := Lib.hid (AE.out.st h9)
                    clear h9
                    go_wp2
                    go_ret
                    rw [← HQ.out]
                    exact A9.out.ok
                  · have HQ := Lib.hid (show bad 172 = R from by rw [← HT.out]; exact (if_neg (fun e => hl0 (List.length_eq_zero_iff.1 e))).symm)
                    have HL0 := Lib.hid hl0
                    clear hl0
                    go_wp2_with fail
                    refine (ends_no Be.out.1 HL0.out).mono ?_
                    rintro e w9 ⟨rfl, h9⟩
                    have A9 := Lib.hid (Be.out.st h9)
                    clear h9
                    unfold badV
                    go_wp2
                    go_ret
                    rw [← HQ.out]
                    exact A9.out.bad (by decide)
                · have hyNn : (isW wMin (isW wAggregate l').2).1 = false := by simpa using hyN
                  by_cases hyX : (isW wMax (isW wAggregate l').2).1 = true
                  · have HT := Lib.hid (show endsZ { c' with agg := 3 } (isW wMax (isW wAggregate l').2).2 = R from by rw [← HQ0.out]; unfold aggZ; rw [if_pos hyA, if_neg hyS, if_neg hyN, if_pos hyX])
                    go_wp2_with fail
                    refine (isWord_yes (HAa.out.box (.cells #[.string wAggregate] 9)).1 wAggregate _ (by rw [World.cell?_alloc_at _ _ _ _ (by simp)]; rfl) hyA).mono ?_
                    rintro e wa ⟨rfl, h9⟩
                    have Ba := Lib.hid ((HAa.out.box (.cells #[.string wAggregate] 9)).st h9)
                    clear h9
                    go_wp2_with fail
                    refine (isWord_no (Ba.out.box (.cells #[.string wSum] 9)).1 wSum _ (by rw [World.cell?_alloc_at _ _ _ _ (by simp)]; rfl) hySn).mono ?_
                    rintro e wb ⟨rfl, h9⟩
                    have Bb := Lib.hid ((Ba.out.box (.cells #[.string wSum] 9)).st h9)
                    clear h9
                    have Bc := Lib.hid (show At w0 w b c' (isW wAggregate l').2 wb from by have := Bb.out; rwa [isW_no hySn] at this)
                    go_wp2_with fail
                    refine (isWord_no (Bc.out.box (.cells #[.string wMin] 9)).1 wMin _ (by rw [World.cell?_alloc_at _ _ _ _ (by simp)]; rfl) hyNn).mono ?_
                    rintro e wd ⟨rfl, h9⟩
                    have Bd := Lib.hid ((Bc.out.box (.cells #[.string wMin] 9)).st h9)
                    clear h9
                    have Be := Lib.hid (show At w0 w b c' (isW wAggregate l').2 wd from by have := Bd.out; rwa [isW_no hyNn] at this)
                    go_wp2_with fail
                    refine (isWord_yes (Be.out.box (.cells #[.string wMax] 9)).1 wMax _ (by rw [World.cell?_alloc_at _ _ _ _ (by simp)]; rfl) hyX).mono ?_
                    rintro e wf ⟨rfl, h9⟩
                    have Bf := Lib.hid ((Be.out.box (.cells #[.string wMax] 9)).st h9)
                    clear h9
                    have hca := Bf.out.cell 27 (.int .i64 c'.agg) (fun _ _ _ _ => rfl)
                    have hfa := Bf.out.frozen 27
                    have Bg := Lib.hid (Bf.out.put (c' := { c' with agg := 3 }) 27 (.int .i64 3) rfl rfl rfl (fun _ _ _ _ => rfl))
                    go_wp2_with fail
                    clear hca hfa
                    by_cases hl0 : (isW wMax (isW wAggregate l').2).2 = []
                    · have HQ := Lib.hid (show (0, { c' with agg := 3 }, []) = R from by rw [← HT.out, hl0]; rfl)
                      have AE := Lib.hid (show At w0 w b { c' with agg := 3 } [] _ from by have := Bg.out; rwa [hl0] at this)
                      clear hl0
                      go_wp2_with fail
                      refine (ends_ok AE.out.1).mono ?_
                      rintro e w9 ⟨rfl, h9⟩
                      have A9 := Lib.hid (AE.out.st h9)
                      clear h9
                      go_wp2
                      go_ret
                      rw [← HQ.out]
                      exact A9.out.ok
                    · have HQ := Lib.hid (show bad 172 = R from by rw [← HT.out]; exact (if_neg (fun e => hl0 (List.length_eq_zero_iff.1 e))).symm)
                      have HL0 := Lib.hid hl0
                      clear hl0
                      go_wp2_with fail
                      refine (ends_no Bg.out.1 HL0.out).mono ?_
                      rintro e w9 ⟨rfl, h9⟩
                      have A9 := Lib.hid (Bg.out.st h9)
                      clear h9
                      unfold badV
                      go_wp2
                      go_ret
                      rw [← HQ.out]
                      exact A9.out.bad (by decide)
                  · have hyXn : (isW wMax (isW wAggregate l').2).1 = false := by simpa using hyX
                    have HT := Lib.hid (show bad 172 = R from by rw [← HQ0.out]; unfold aggZ; rw [if_pos hyA, if_neg hyS, if_neg hyN, if_neg hyX])
                    go_wp2_with fail
                    refine (isWord_yes (HAa.out.box (.cells #[.string wAggregate] 9)).1 wAggregate _ (by rw [World.cell?_alloc_at _ _ _ _ (by simp)]; rfl) hyA).mono ?_
                    rintro e wa ⟨rfl, h9⟩
                    have Ba := Lib.hid ((HAa.out.box (.cells #[.string wAggregate] 9)).st h9)
                    clear h9
                    go_wp2_with fail
                    refine (isWord_no (Ba.out.box (.cells #[.string wSum] 9)).1 wSum _ (by rw [World.cell?_alloc_at _ _ _ _ (by simp)]; rfl) hySn).mono ?_
                    rintro e wb ⟨rfl, h9⟩
                    have Bb := Lib.hid ((Ba.out.box (.cells #[.string wSum] 9)).st h9)
                    clear h9
                    have Bc := Lib.hid (show At w0 w b c' (isW wAggregate l').2 wb from by have := Bb.out; rwa [isW_no hySn] at this)
                    go_wp2_with fail
                    refine (isWord_no (Bc.out.box (.cells #[.string wMin] 9)).1 wMin _ (by rw [World.cell?_alloc_at _ _ _ _ (by simp)]; rfl) hyNn).mono ?_
                    rintro e wd ⟨rfl, h9⟩
                    have Bd := Lib.hid ((Bc.out.box (.cells #[.string wMin] 9)).st h9)
                    clear h9
                    have Be := Lib.hid (show At w0 w b c' (isW wAggregate l').2 wd from by have := Bd.out; rwa [isW_no hyNn] at this)
                    go_wp2_with fail
                    refine (isWord_no (Be.out.box (.cells #[.string wMax] 9)).1 wMax _ (by rw [World.cell?_alloc_at _ _ _ _ (by simp)]; rfl) hyXn).mono ?_
                    rintro e wf ⟨rfl, h9⟩
                    have Bf := Lib.hid ((Be.out.box (.cells #[.string wMax] 9)).st h9)
                    clear h9
                    go_wp2_with fail
                    refine (first_calls 172 (by decide) _ _ (by rw [World.cell?_alloc_at _ _ _ _ (by simp)]; rfl)).mono ?_
                    rintro e w8 ⟨rfl, rfl⟩
                    rw [show refV 172 = .iface 74 (.agg #[.int .i64 172]) from rfl]
                    go_wp2
                    go_ret
                    rw [← HT.out]
                    exact (Bf.out.box _).bad (by decide)
            · have hyA : (isW wAggregate l').1 = false := by simpa using hyA
              go_wp2_with fail
              refine (isWord_no (HAa.out.box (.cells #[.string wAggregate] 9)).1 wAggregate _ (by rw [World.cell?_alloc_at _ _ _ _ (by simp)]; rfl) hyA).mono ?_
              rintro e wa ⟨rfl, h9⟩
              have Ba := Lib.hid ((HAa.out.box (.cells #[.string wAggregate] 9)).st h9)
              clear h9
              have HT := Lib.hid (show endsZ c' (isW wAggregate l').2 = R from by rw [← HQ0.out, isW_no hyA]; unfold aggZ; rw [if_neg (by rw [hyA]; decide)])
              by_cases hl0 : (isW wAggregate l').2 = []
              · have HQ := Lib.hid (show (0, c', []) = R from by rw [← HT.out, hl0]; rfl)
                have AE := Lib.hid (show At w0 w b c' [] _ from by have := Ba.out; rwa [hl0] at this)
                clear hl0
                go_wp2_with fail
                refine (ends_ok AE.out.1).mono ?_
                rintro e w9 ⟨rfl, h9⟩
                have A9 := Lib.hid (AE.out.st h9)
                clear h9
                go_wp2
                go_ret
                rw [← HQ.out]
                exact A9.out.ok
              · have HQ := Lib.hid (show bad 172 = R from by rw [← HT.out]; exact (if_neg (fun e => hl0 (List.length_eq_zero_iff.1 e))).symm)
                have HL0 := Lib.hid hl0
                clear hl0
                go_wp2_with fail
                refine (ends_no Ba.out.1 HL0.out).mono ?_
                rintro e w9 ⟨rfl, h9⟩
                have A9 := Lib.hid (Ba.out.st h9)
                clear h9
                unfold badV
                go_wp2
                go_ret
                rw [← HQ.out]
                exact A9.out.bad (by decide)
  · rw [if_neg (by rw [he]; exact h0), he]
    go_enter Tryd.func35, Tryd.ntmps35
    go_wp2_with fail
    refine HC.out.mono ?_
    rintro e w1 ⟨rfl, h1, f1, h2⟩
    rw [he, refV_ne h0]
    have H1 := Lib.hid (show _ ∧ _ from ⟨h1, f1⟩)
    clear h1 f1 h2 HC
    go_wp2
    go_ret
    exact postE_bad h0 H1.out.1 H1.out.2
end
end Go.Proofs.YtegmbgjolnbgpaaDoor.P
