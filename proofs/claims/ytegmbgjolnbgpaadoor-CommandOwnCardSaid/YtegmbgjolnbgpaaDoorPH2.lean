/- What 'ints.digits' and 'ints.isOf' answer, at every text. Conditions: none. -/
import Derived.Test.YtegmbgjolnbgpaaDoorPx0
import Derived.Lib.Hide
import Derived.Lib.OthersKept
import Derived.WalkSmall
import Derived.Outline
import Derived.WalkSpells
namespace Go.Proofs.YtegmbgjolnbgpaaDoor.P
open Go.RowKit Go.Lib Go.Proofs.YtegmbgjolnbgpaaDoorW.PrintWords Go.Proofs.YtegmbgjolnbgpaaDoorW.PrintLast Go.Proofs.YtegmbgjolnbgpaaDoorW.PrintMore

theorem bcell {W w1 : World} (hb : Below W.heap.size W w1) : (∀ b o, b < W.heap.size → w1.cell? ⟨b, o, none⟩ = W.cell? ⟨b, o, none⟩) ∧ (∀ b o, b < W.heap.size → w1.frozen? ⟨b, o, none⟩ = W.frozen? ⟨b, o, none⟩) :=
  ⟨fun b o h => hb.cell (p := ⟨b, o, none⟩) h, fun b o h => hb.frozen (p := ⟨b, o, none⟩) h⟩

theorem isOf1 (x r : Int) (b : Nat) (w : World) (h0 : w.cell? ⟨b, 0, none⟩ = some (.int .i32 x)) (q : Bool) (hq : (x == r) = q) :
    Calls Tryd.prog 71 #[.int .i32 r, .slice (some ⟨b, 0, none⟩) 1 1] w fun e w' => e = .returned (.bool q) ∧ w = w' := by
  cases q
  all_goals
    go_enter Tryd.func71, Tryd.ntmps71
    go_wp2
    refine wp_loop_rounds 2 ?_
    repeat (rw [rounds_succ]; go_wp2)
    go_ret
    exact ⟨rfl, rfl⟩

/-- Is the byte at i wrong in a number of s.size digits? -/
def badAt (s : ByteArray) (i : Nat) : Bool := decide (bt s i < 48) || decide (57 < bt s i) || (decide (i = 0) && decide (bt s i = 48) && decide (1 < s.size))
/-- The number of the first k digits. -/
def digN (s : ByteArray) : Nat → Int
  | 0 => 0
  | k + 1 => 10 * digN s k + (bt s k - 48)
def digitsR (s : ByteArray) : Prop := 0 < s.size ∧ s.size < 20 ∧ ∀ i, i < s.size → badAt s i = false
theorem digN_bd (s : ByteArray) (k : Nat) (h : ∀ i, i < k → badAt s i = false) : 0 ≤ digN s k ∧ digN s k < 10 ^ k := by
  induction k with
  | zero => simp [digN]
  | succ k ih =>
    obtain ⟨h1, h2⟩ := ih fun i hi => h i (by omega)
    have hb := h k (by omega)
    simp only [badAt, Bool.or_eq_false_iff, decide_eq_false_iff_not] at hb
    obtain ⟨⟨h3, h4⟩, _⟩ := hb
    simp only [digN, Int.pow_succ]
    omega
theorem below_iter' {w W : World} (h : Below w.heap.size w W) (s : ByteArray) (pos : Nat) : Below w.heap.size w (W.iter s pos) := below_alloc h _

theorem lt_of_some {w : World} {k : Nat} {o : Obj} (h : w.heap[k]? = some o) : k < w.heap.size := (Array.getElem?_eq_some_iff.1 h).1
theorem alloc_heap_lt (w : World) (o : Obj) (k : Nat) (h : k < w.heap.size) : (w.alloc o).heap[k]? = w.heap[k]? := Below.heap_alloc w o k h
theorem next_of (P : Program) (wr : World) (k : Nat) (s : ByteArray) (pos : Nat) (hit : wr.heap[k]? = some (.stringIter s pos)) (hp : pos < s.size) :
    ∃ (r : Int) (d : Nat), (∀ ty, (Instr.next (.pointer (some ⟨k, 0, none⟩)) true ty).run P wr = .ok (.tuple #[.bool true, .int .i64 pos, .int .i32 r]) (wr.iterAt k s (pos + d))) ∧ 1 ≤ d ∧ 0 ≤ r ∧ (bt s pos < 128 → r = bt s pos ∧ d = 1) ∧ (128 ≤ bt s pos → 128 ≤ r) := by
  have hb : bt s pos = ((s[pos]'hp).toNat : Int) := by
    have := bt_at s pos (by simpa using hp)
    simpa using this.symm
  by_cases ha : (s[pos]'hp).toNat < 128
  · exact ⟨((s[pos]'hp).toNat : Int), 1, fun ty => run_next_ascii_at wr k s pos ty hit hp ha, Nat.le_refl _, by omega, fun _ => ⟨hb.symm, rfl⟩, fun h => by omega⟩
  · have hh := decode_high s pos hp (by omega)
    exact ⟨_, _, fun ty => run_next_any_at wr k s pos ty hit hp, hh.2, by omega, fun h => by omega, fun _ => by have := hh.1; omega⟩
/-- What the loop holds at its head. -/
def DigRel (s : ByteArray) (ok0 : Bool) (w wr : World) (v4 v5 : Value) : Prop :=
  ∃ pos : Nat, pos ≤ s.size ∧ (∀ i, i < pos → badAt s i = false) ∧ (s.size < 20 → v4 = .int .u64 (digN s pos)) ∧ (∃ n, v4 = .int .u64 n) ∧ v5 = .bool ok0 ∧ wr.heap[w.heap.size]? = some (.stringIter s pos) ∧ Below w.heap.size w wr
theorem pow_le (k : Nat) (h : k ≤ 18) : (10 : Int) ^ k ≤ 10 ^ 18 := by
  have : k = 0 ∨ k = 1 ∨ k = 2 ∨ k = 3 ∨ k = 4 ∨ k = 5 ∨ k = 6 ∨ k = 7 ∨ k = 8 ∨ k = 9 ∨ k = 10 ∨ k = 11 ∨ k = 12 ∨ k = 13 ∨ k = 14 ∨ k = 15 ∨ k = 16 ∨ k = 17 ∨ k = 18 := by omega
  rcases this with rfl | rfl | rfl | rfl | rfl | rfl | rfl | rfl | rfl | rfl | rfl | rfl | rfl | rfl | rfl | rfl | rfl | rfl | rfl <;> decide
theorem wrap_u64 (n : Int) : IntKind.u64.wrap n = n % 18446744073709551616 := by
  simp [IntKind.wrap, IntKind.signed, IntKind.bits]
theorem dig_step (s : ByteArray) (ok0 : Bool) (w wr wr2 : World) (pos : Nat) (n r : Int) (hp : pos < s.size) (hg : ∀ i, i < pos → badAt s i = false) (hn : s.size < 20 → Value.int .u64 n = .int .u64 (digN s pos)) (hbad : ¬ badAt s pos = true) (hr : r = bt s pos)
    (hit : wr.heap[w.heap.size]? = some (.stringIter s pos)) (hbel : Below w.heap.size w wr) (h2 : wr2 = wr.iterAt w.heap.size s (pos + 1) ∨ ∃ o, wr2 = (wr.iterAt w.heap.size s (pos + 1)).alloc o) :
    DigRel s ok0 w wr2 (.int .u64 (IntKind.u64.wrap (IntKind.u64.wrap (10 * n) + (r - 48)))) (.bool ok0) := by
  have hg2 : ∀ i, i < pos + 1 → badAt s i = false := fun i hi => by
    rcases Nat.lt_or_ge i pos with h | h
    · exact hg i h
    · obtain rfl : i = pos := by omega
      exact Bool.eq_false_iff.mpr hbad
  have hi : (wr.iterAt w.heap.size s (pos + 1)).heap[w.heap.size]? = some (.stringIter s (pos + 1)) := iterAt_heap _ _ _ _ _ hit
  have hb : Below w.heap.size w (wr.iterAt w.heap.size s (pos + 1)) := below_iterAt hbel (Nat.le_refl _) s _
  refine ⟨pos + 1, by omega, hg2, fun h20 => ?_, ⟨_, rfl⟩, rfl, ?_, ?_⟩
  · have h1 := hn h20
    have e : n = digN s pos := by simpa using h1
    obtain ⟨b1, b2⟩ := digN_bd s pos hg
    have b3 := pow_le pos (by omega)
    have hb2 := hg2 pos (by omega)
    simp only [badAt, Bool.or_eq_false_iff, decide_eq_false_iff_not] at hb2
    obtain ⟨⟨b4, b5⟩, _⟩ := hb2
    rw [wrap_u64, wrap_u64, e, hr, digN]
    congr 1
    have : (10 : Int) ^ 18 = 1000000000000000000 := by decide
    omega
  · rcases h2 with rfl | ⟨o, rfl⟩
    · exact hi
    · rw [alloc_heap_lt _ _ _ (lt_of_some hi)]; exact hi
  · rcases h2 with rfl | ⟨o, rfl⟩
    · exact hb
    · exact below_alloc hb _
theorem no_dig (s : ByteArray) (b : Bool) (h : (decide (0 < s.size) && decide (s.size < 20)) = b) (hg : ∀ i, i < s.size → badAt s i = false) (hd : ¬ digitsR s) : b = false := by
  apply Bool.eq_false_iff.mpr
  intro hb
  have h2 := h.trans hb
  rw [Bool.and_eq_true, decide_eq_true_eq, decide_eq_true_eq] at h2
  exact hd ⟨h2.1, h2.2, hg⟩
def DigEnd (s : ByteArray) (w : World) (e : Ending) (w' : World) : Prop :=
  ∃ (n : Int) (ok : Bool), e = .returned (.tuple #[.int .u64 n, .bool ok]) ∧ (digitsR s → ok = true ∧ n = digN s s.size) ∧ (¬ digitsR s → ok = false) ∧ Below w.heap.size w w'
theorem empty_of (s : ByteArray) (h : s.size = 0) : s.toList = [] := by
  rw [Go.ByteArray.toList_eq]
  exact List.eq_nil_of_length_eq_zero (by simpa using h)
theorem not_empty_of (s : ByteArray) (h : 0 < s.size) : ¬ s.toList = [] := by
  rw [Go.ByteArray.toList_eq]
  intro hn
  have := congrArg List.length hn
  simp only [List.length_nil, Array.length_toList] at this
  have h2 : s.size = s.data.size := rfl
  omega
set_option maxHeartbeats 4000000 in
set_option maxRecDepth 100000 in
theorem digits_any (s : ByteArray) (w : World) (hs : s.size ≤ maxLen) (ok0 : Bool) (hok : (decide (0 < s.size) && decide (s.size < 20)) = ok0) :
    Calls Tryd.prog 62 #[.string s] w (DigEnd s w) := by
  unfold maxLen at hs
  have start : ∃ (b : Bool), b = ok0 ∧ ((b = false ∧ s.toList = []) ∨ (¬ s.toList = [] ∧ s.toList.isEmpty = false ∧ decide ((s.size : Int) < 20) = b)) := by
    by_cases h0 : s.size = 0
    · exact ⟨false, by rw [← hok]; simp [h0], .inl ⟨rfl, empty_of s h0⟩⟩
    · have hn := not_empty_of s (by omega)
      exact ⟨ok0, rfl, .inr ⟨hn, by rw [List.isEmpty_eq_false_iff]; exact hn, by rw [← hok, decide_eq_true (show 0 < s.size by omega), Bool.true_and, decide_eq_decide]; omega⟩⟩
  have HOK := Lib.hid hok
  clear hok
  obtain ⟨b, rfl, hst⟩ := start
  rcases hst with ⟨rfl, h1⟩ | ⟨h1, h2, h3⟩
  all_goals
    go_enter Tryd.func62, Tryd.ntmps62
    go_wp2
    go_step3
    go_wp2
    go_step3
    go_wp2
    go_loopw [4, 5] (fun v4 v5 wr => DigRel s _ w wr v4 v5) (fun _ _ wr => s.size - wr.iterPos w.heap.size)
    case atStart => exact ⟨0, Nat.zero_le _, fun i hi => absurd hi (Nat.not_lt_zero _), fun _ => rfl, ⟨0, rfl⟩, rfl, World.iter_heap _ _ _, below_iter' (Below.refl _ _) _ _⟩
    case round =>
      obtain ⟨pos, hpos, hgood, hn, ⟨n, rfl⟩, rfl, hit, hbel⟩ := hrel
      have HG := Lib.hid hgood
      have HN := Lib.hid hn
      clear hgood hn
      by_cases hp : pos < s.size
      · obtain ⟨r, d, hnx, hd1, hr0, hasc, hhigh⟩ := next_of Tryd.prog wr w.heap.size s pos hit hp
        by_cases hbad : badAt s pos = true
        · have hend : ∀ (m : Int) (w' : World), Below w.heap.size w w' → DigEnd s w (.returned (.tuple #[.int .u64 m, .bool false])) w' := fun m w' hb' => ⟨m, false, rfl, (fun hd => by rw [hd.2.2 pos hp] at hbad; cases hbad), fun _ => rfl, hb'⟩
          have HEND := Lib.hid hend
          clear hend
          have hbel2 : ∀ q, Below w.heap.size w (wr.iterAt w.heap.size s q) := fun q => below_iterAt hbel (Nat.le_refl _) s q
          have HB := Lib.hid hbel2
          clear hbel2
          by_cases h1 : r < 48
          · go_wp2
            try rw [Exit.noGoto_ret]
            go_ret2
            exact HEND.out _ _ (HB.out _)
          · by_cases h2 : 57 < r
            · go_wp2
              try rw [Exit.noGoto_ret]
              go_ret2
              exact HEND.out _ _ (HB.out _)
            · have hbt : bt s pos < 128 := by
                rcases Int.lt_or_le (bt s pos) 128 with h | h
                · exact h
                · have := hhigh h; omega
              obtain ⟨hrb, rfl⟩ := hasc hbt
              have hz : pos = 0 ∧ r = 48 ∧ 1 < s.size := by
                simp only [badAt, Bool.or_eq_true, Bool.and_eq_true, decide_eq_true_eq] at hbad
                omega
              obtain ⟨rfl, hr, hsz⟩ := hz
              have hsz2 : (1 : Int) < s.size := by omega
              subst hr
              clear hrb hbt hhigh hasc
              have hk := lt_of_some hit
              go_wp2_with fail
              refine (isOf1 48 48 _ _ ?_ true rfl).mono ?_
              · go_simp
              rintro e w' ⟨rfl, rfl⟩
              go_wp2
              try rw [Exit.noGoto_ret]
              go_ret2
              exact HEND.out _ _ (below_alloc (HB.out _) _)
        · have hgd : 48 ≤ bt s pos ∧ bt s pos ≤ 57 ∧ (pos = 0 → bt s pos = 48 → s.size ≤ 1) := by
            simp only [badAt, Bool.or_eq_true, Bool.and_eq_true, decide_eq_true_eq] at hbad
            omega
          obtain ⟨hrb, rfl⟩ := hasc (by omega)
          have hr1 : 48 ≤ r := by omega
          have hr2 : r ≤ 57 := by omega
          have hz := hgd.2.2
          have hstep : DigRel s false w wr (.int .u64 n) (.bool false) → True := fun _ => trivial
          have HRB := Lib.hid hrb
          have HZ := Lib.hid hz
          have HBAD := Lib.hid hbad
          clear hrb hz hbad hgd hhigh hasc hstep
          have hpi : (pos : Int) ≤ 9223372036854775806 := by omega
          have hk := lt_of_some hit
          by_cases h0 : pos = 0
          · subst h0
            have HIT := Lib.hid hit
            clear hit
            by_cases h48 : r = 48
            · have hsz : s.size ≤ 1 := HZ.out rfl (HRB.out.symm.trans h48)
              have hq : ((48 : Int) == r) = true := by rw [beq_iff_eq]; omega
              have HQ := Lib.hid hq
              clear hq h48
              go_wp2_with fail
              refine (isOf1 48 _ _ _ ?_ true HQ.out).mono ?_
              · go_simp
              rintro e w' ⟨rfl, rfl⟩
              go_wp2
              go_roundw
              case rel => exact dig_step s _ w wr _ 0 n r hp HG.out HN.out HBAD.out HRB.out HIT.out hbel (.inr ⟨_, rfl⟩)
              case measure =>
                rw [iterPos_of (iterAt_heap _ _ _ _ 1 HIT.out |> fun h => (alloc_heap_lt _ _ _ (lt_of_some h)).trans h), iterPos_of HIT.out]
                omega
            · have hq : ((48 : Int) == r) = false := by rw [beq_eq_false_iff_ne]; omega
              have HQ := Lib.hid hq
              clear hq h48
              go_wp2_with fail
              refine (isOf1 48 _ _ _ ?_ false HQ.out).mono ?_
              · go_simp
              rintro e w' ⟨rfl, rfl⟩
              go_wp2
              go_roundw
              case rel => exact dig_step s _ w wr _ 0 n r hp HG.out HN.out HBAD.out HRB.out HIT.out hbel (.inr ⟨_, rfl⟩)
              case measure =>
                rw [iterPos_of (iterAt_heap _ _ _ _ 1 HIT.out |> fun h => (alloc_heap_lt _ _ _ (lt_of_some h)).trans h), iterPos_of HIT.out]
                omega
          · have h0' : ((pos : Int) == 0) = false := by rw [beq_eq_false_iff_ne]; omega
            clear h0
            have HIT := Lib.hid hit
            clear hit
            go_wp2
            go_roundw
            case rel => exact dig_step s _ w wr _ pos n r hp HG.out HN.out HBAD.out HRB.out HIT.out hbel (.inl rfl)
            case measure =>
              rw [iterPos_of (iterAt_heap _ _ _ _ _ HIT.out), iterPos_of HIT.out]
              omega
      · have hnx : ∀ ty, (Instr.next (.pointer (some ⟨w.heap.size, 0, none⟩)) true ty).run Tryd.prog wr = _ := fun ty => run_next_end_at wr w.heap.size s pos ty hit hp
        go_wp2
        rw [Exit.noGoto_ret]
        go_ret2
        refine ⟨n, _, rfl, fun hd => ⟨?_, ?_⟩, fun hd => ?_, hbel⟩
        · have := HOK.out
          rw [decide_eq_true hd.1, decide_eq_true hd.2.1] at this
          exact this.symm
        · have h1 := HN.out hd.2.1
          rw [show s.size = pos by omega]
          simpa using h1
        · have hg : ∀ i, i < s.size → badAt s i = false := fun i hi => HG.out i (by omega)
          have h9 := HOK.out
          exact no_dig s _ h9 hg hd
end Go.Proofs.YtegmbgjolnbgpaaDoor.P
/- What 'ints.Parse' answers, at every text. Conditions: the text has fewer than 2^63 bytes. -/
namespace Go.Proofs.YtegmbgjolnbgpaaDoor.P
open Go.RowKit Go.Lib Go.Proofs.YtegmbgjolnbgpaaDoorW.PrintWords Go.Proofs.YtegmbgjolnbgpaaDoorW.PrintLast Go.Proofs.YtegmbgjolnbgpaaDoorW.PrintMore

/-- Are these the digits of a number without a sign? -/
def digitsB (s : ByteArray) : Bool := decide (0 < s.size) && decide (s.size < 20) && (List.range s.size).all fun i => !badAt s i
theorem digitsB_iff (s : ByteArray) : digitsB s = true ↔ digitsR s := by
  simp [digitsB, digitsR, and_assoc]
theorem digits_yes (s : ByteArray) (w : World) (hs : s.size ≤ maxLen) (h : digitsB s = true) :
    Calls Tryd.prog 62 #[.string s] w fun e w' => e = .returned (.tuple #[.int .u64 (digN s s.size), .bool true]) ∧ Below w.heap.size w w' := by
  refine (digits_any s w hs _ rfl).mono ?_
  rintro e w' ⟨n, ok, rfl, h1, _, hb⟩
  obtain ⟨rfl, rfl⟩ := h1 ((digitsB_iff s).mp h)
  exact ⟨rfl, hb⟩
def NoDigits (w : World) (e : Ending) (w' : World) : Prop := ∃ n : Int, e = .returned (.tuple #[.int .u64 n, .bool false]) ∧ Below w.heap.size w w'
theorem digits_no (s : ByteArray) (w : World) (hs : s.size ≤ maxLen) (h : digitsB s = false) : Calls Tryd.prog 62 #[.string s] w (NoDigits w) := by
  refine (digits_any s w hs _ rfl).mono ?_
  rintro e w' ⟨n, ok, rfl, _, h2, hb⟩
  obtain rfl := h2 (fun hd => by rw [(digitsB_iff s).mpr hd] at h; cases h)
  exact ⟨n, rfl, hb⟩
/-- The number of digits behind a sign, or without one. -/
def parseOf (neg : Bool) (rest : ByteArray) : Int × Int :=
  if digitsB rest = true then
    (if neg = true then (if 0 < digN rest rest.size ∧ digN rest rest.size ≤ 9223372036854775808 then (-digN rest rest.size, 0) else (0, 10))
     else (if digN rest rest.size ≤ 9223372036854775807 then (digN rest rest.size, 0) else (0, 10)))
  else (0, 10)
def ints_Parse.f (s : ByteArray) : Option (Int × Int) :=
  if s.size ≤ 9223372036854775807 then some (if 0 < s.size ∧ bt s 0 = 45 then parseOf true (s.extract 1 s.size) else parseOf false s) else none
/-- What holds where the text jumps to what is told of a wrong text. -/
def AtWrong (w : World) (a' : Act) (w' : World) : Prop := a'.defers = [] ∧ a'.tmps.size = 52 ∧ Below w.heap.size w w'
def Told (w : World) (v : Int × Int) (e : Ending) (w' : World) : Prop := e = .returned (.tuple #[.int .i64 v.1, .int .i64 v.2]) ∧ Below w.heap.size w w'
set_option maxHeartbeats 4000000 in
set_option maxRecDepth 100000 in
theorem parse_empty (s : ByteArray) (h0 : s.size = 0) (w : World) : Calls Tryd.prog 42 #[.string s] w (Told w (0, 10)) := by
  have h1 := empty_of s h0
  have hd : digitsB s = false := by simp [digitsB, h0]
  have HD := Lib.hid hd
  have H0 := Lib.hid h0
  clear hd h0
  go_enter Tryd.func42, Tryd.ntmps42
  go_wp2_with fail
  refine wp_scope_jumps 0 (AtWrong w) (fun _ _ => 0) rfl ?_ ?_
  · go_wp2_with fail
    refine (digits_no s _ (by rw [H0.out]; exact Nat.zero_le _) HD.out).mono ?_
    rintro e w1 ⟨n, rfl, hb⟩
    go_wp2_with fail
    go_step3
    exact ⟨rfl, rfl, rfl, hb⟩
  · rintro ⟨tmps, defers⟩ w' ⟨hd, hs, hb⟩
    go_wp2_with fail
    simp only [Exit.jump]
    refine bodyPost_ret (results_tmp2 rfl _ _ _) rfl ⟨?_, hb⟩
    simp [hs]
theorem method_above (n : Int) (w : World) : (method 289 121 (.int .u64 n) "palio/ints.value").run Tryd.prog w = .ok (104, .int .u64 n) w := by kernel_rfl
theorem method_below (n : Int) (w : World) : (method 289 122 (.int .u64 n) "palio/ints.value").run Tryd.prog w = .ok (105, .int .u64 n) w := by kernel_rfl
theorem assert_above (n : Int) (w : World) : (Instr.typeAssert (.iface 121 (.int .u64 n)) 117 122 true).run Tryd.prog w = .ok (.tuple #[.int .u64 0, .bool false]) w := by kernel_rfl
theorem assert_below (n : Int) (w : World) : (Instr.typeAssert (.iface 122 (.int .u64 n)) 117 122 true).run Tryd.prog w = .ok (.tuple #[.int .u64 n, .bool true]) w := by kernel_rfl
set_option maxHeartbeats 4000000 in
set_option maxRecDepth 100000 in
/-- Without a sign: no digits. -/
theorem parse_not (s : ByteArray) (w : World) (hs : s.size ≤ maxLen) (h0 : 0 < s.size) (h45 : ¬ bt s 0 = 45) (hd : digitsB s = false) :
    Calls Tryd.prog 42 #[.string s] w (Told w (0, 10)) := by
  have h1 := not_empty_of s h0
  have h2 : s.toList.isEmpty = false := by rw [List.isEmpty_eq_false_iff]; exact h1
  have hb0 : ((bt s 0) == 45) = false := by rw [beq_eq_false_iff_ne]; exact h45
  have hbt : ∀ h, ((s[0]'h).toNat : Int) = bt s 0 := fun h => bt_at s 0 h
  have HD := Lib.hid hd
  clear hd h45
  go_enter Tryd.func42, Tryd.ntmps42
  go_wp2_with fail
  refine wp_scope_jumps 0 (AtWrong w) (fun _ _ => 0) rfl ?_ ?_
  · go_wp2_with fail
    refine (digits_no _ _ hs HD.out).mono ?_
    rintro e w1 ⟨n, rfl, hb⟩
    go_wp2_with fail
    go_step3
    exact ⟨rfl, rfl, rfl, hb⟩
  · rintro ⟨tmps, defers⟩ w' ⟨hd, hs, hb⟩
    go_wp2_with fail
    simp only [Exit.jump]
    refine bodyPost_ret (results_tmp2 rfl _ _ _) rfl ⟨?_, hb⟩
    simp [hs]
set_option maxHeartbeats 4000000 in
set_option maxRecDepth 100000 in
/-- Without a sign: the digits are some. -/
theorem parse_above (s : ByteArray) (w : World) (hs : s.size ≤ maxLen) (h0 : 0 < s.size) (h45 : ¬ bt s 0 = 45) (hd : digitsB s = true) (n : Int) (hn : digN s (s).size = n) (hn0 : 0 ≤ n) (hn1 : n ≤ 9223372036854775807) :
    Calls Tryd.prog 42 #[.string s] w (Told w (n, 0)) := by
  have h1 := not_empty_of s h0
  have h2 : s.toList.isEmpty = false := by rw [List.isEmpty_eq_false_iff]; exact h1
  have hb0 : ((bt s 0) == 45) = false := by rw [beq_eq_false_iff_ne]; exact h45
  have hbt : ∀ h, ((s[0]'h).toNat : Int) = bt s 0 := fun h => bt_at s 0 h
  have hma := method_above
  have hta := assert_above
  have HN := Lib.hid hn
  clear hn
  have hlt : decide (n < 0) = false := decide_eq_false (by omega)
  have HD := Lib.hid hd
  clear hd h45
  go_enter Tryd.func42, Tryd.ntmps42
  go_wp2_with fail
  refine wp_scope_jumps 0 (fun _ _ => False) (fun _ _ => 0) rfl ?_ ?_
  · go_wp2_with fail
    refine (digits_yes _ _ hs HD.out).mono ?_
    rintro e w1 ⟨rfl, hb⟩
    rw [HN.out]
    go_wp2
    simp only [Exit.jump]
    go_ret2
    exact ⟨rfl, hb⟩
  · exact fun _ _ h => h.elim
set_option maxHeartbeats 4000000 in
set_option maxRecDepth 100000 in
/-- Without a sign: too great. -/
theorem parse_great (s : ByteArray) (w : World) (hs : s.size ≤ maxLen) (h0 : 0 < s.size) (h45 : ¬ bt s 0 = 45) (hd : digitsB s = true) (n : Int) (hn : digN s (s).size = n) (hn1 : 9223372036854775807 < n) :
    Calls Tryd.prog 42 #[.string s] w (Told w (0, 10)) := by
  have h1 := not_empty_of s h0
  have h2 : s.toList.isEmpty = false := by rw [List.isEmpty_eq_false_iff]; exact h1
  have hb0 : ((bt s 0) == 45) = false := by rw [beq_eq_false_iff_ne]; exact h45
  have hbt : ∀ h, ((s[0]'h).toNat : Int) = bt s 0 := fun h => bt_at s 0 h
  have hma := method_above
  have hta := assert_above
  have HN := Lib.hid hn
  clear hn
  have HD := Lib.hid hd
  clear hd h45
  go_enter Tryd.func42, Tryd.ntmps42
  go_wp2_with fail
  refine wp_scope_jumps 0 (AtWrong w) (fun _ _ => 0) rfl ?_ ?_
  · go_wp2_with fail
    refine (digits_yes _ _ hs HD.out).mono ?_
    rintro e w1 ⟨rfl, hb⟩
    rw [HN.out]
    go_wp2
    try go_step3
    go_wp2_with fail
    simp only [Exit.jump]
    go_ret2
    exact ⟨rfl, hb⟩
  · rintro ⟨tmps, defers⟩ w' ⟨hd, hs, hb⟩
    go_wp2_with fail
    simp only [Exit.jump]
    refine bodyPost_ret (results_tmp2 rfl _ _ _) rfl ⟨?_, hb⟩
    simp [hs]
theorem ret2 {a b c d : Int} (h : a = c) (h2 : b = d) : Ending.returned (.tuple #[.int .i64 a, .int .i64 b]) = .returned (.tuple #[.int .i64 c, .int .i64 d]) := by rw [h, h2]
theorem least_neg : wrap64 (-wrap64 9223372036854775808) = -9223372036854775808 := by decide +kernel
theorem part_ne (s : ByteArray) (h0 : 0 < s.size) : (!((s.extract 1 s.size).toList == s.toList)) = true := by
  rw [Bool.not_eq_true', beq_eq_false_iff_ne, Go.ByteArray.toList_eq, Go.ByteArray.toList_eq]
  intro h
  have h1 := congrArg List.length h
  simp at h1
  have h2 : s.size = s.data.size := rfl
  omega
set_option maxHeartbeats 4000000 in
set_option maxRecDepth 100000 in
/-- With a sign: no digits. -/
theorem parse_nnot (s : ByteArray) (w : World) (hs : s.size ≤ maxLen) (h0 : 0 < s.size) (h45 : bt s 0 = 45) (hd : digitsB (s.extract 1 s.size) = false) :
    Calls Tryd.prog 42 #[.string s] w (Told w (0, 10)) := by
  have h1 := not_empty_of s h0
  have h2 : s.toList.isEmpty = false := by rw [List.isEmpty_eq_false_iff]; exact h1
  have hb0 : ((bt s 0) == 45) = true := by rw [beq_iff_eq]; exact h45
  have hbt : ∀ h, ((s[0]'h).toNat : Int) = bt s 0 := fun h => bt_at s 0 h
  have hpart : (!((s.extract 1 s.size).toList == s.toList)) = true := part_ne s h0
  have hle : (s.extract 1 s.size).size ≤ maxLen := by simp; omega
  have HD := Lib.hid hd
  clear hd h45
  go_enter Tryd.func42, Tryd.ntmps42
  go_wp2_with fail
  refine wp_scope_jumps 0 (AtWrong w) (fun _ _ => 0) rfl ?_ ?_
  · go_wp2_with fail
    refine (digits_no _ _ hle HD.out).mono ?_
    rintro e w1 ⟨n, rfl, hb⟩
    go_wp2_with fail
    go_step3
    exact ⟨rfl, rfl, rfl, hb⟩
  · rintro ⟨tmps, defers⟩ w' ⟨hd, hs, hb⟩
    go_wp2_with fail
    simp only [Exit.jump]
    refine bodyPost_ret (results_tmp2 rfl _ _ _) rfl ⟨?_, hb⟩
    simp [hs]
set_option maxHeartbeats 4000000 in
set_option maxRecDepth 100000 in
/-- With a sign: the digits are some. -/
theorem parse_below (s : ByteArray) (w : World) (hs : s.size ≤ maxLen) (h0 : 0 < s.size) (h45 : bt s 0 = 45) (hd : digitsB (s.extract 1 s.size) = true) (n : Int) (hn : digN (s.extract 1 s.size) ((s.extract 1 s.size)).size = n) (hn1 : 0 < n) (hn2 : n ≤ 9223372036854775807) :
    Calls Tryd.prog 42 #[.string s] w (Told w (-n, 0)) := by
  have h1 := not_empty_of s h0
  have h2 : s.toList.isEmpty = false := by rw [List.isEmpty_eq_false_iff]; exact h1
  have hb0 : ((bt s 0) == 45) = true := by rw [beq_iff_eq]; exact h45
  have hbt : ∀ h, ((s[0]'h).toNat : Int) = bt s 0 := fun h => bt_at s 0 h
  have hpart : (!((s.extract 1 s.size).toList == s.toList)) = true := part_ne s h0
  have hle : (s.extract 1 s.size).size ≤ maxLen := by simp; omega
  have hma := method_below
  have hta := assert_below
  have HN := Lib.hid hn
  clear hn
  have HD := Lib.hid hd
  clear hd h45
  go_enter Tryd.func42, Tryd.ntmps42
  go_wp2_with fail
  refine wp_scope_jumps 0 (fun _ _ => False) (fun _ _ => 0) rfl ?_ ?_
  · go_wp2_with fail
    refine (digits_yes _ _ hle HD.out).mono ?_
    rintro e w1 ⟨rfl, hb⟩
    rw [HN.out]
    go_wp2
    simp only [Exit.jump]
    go_ret2
    exact ⟨rfl, hb⟩
  · exact fun _ _ h => h.elim
set_option maxHeartbeats 4000000 in
set_option maxRecDepth 100000 in
/-- With a sign: the least of all. -/
theorem parse_least (s : ByteArray) (w : World) (hs : s.size ≤ maxLen) (h0 : 0 < s.size) (h45 : bt s 0 = 45) (hd : digitsB (s.extract 1 s.size) = true) (hn : digN (s.extract 1 s.size) (s.extract 1 s.size).size = 9223372036854775808) :
    Calls Tryd.prog 42 #[.string s] w (Told w (-9223372036854775808, 0)) := by
  have h1 := not_empty_of s h0
  have h2 : s.toList.isEmpty = false := by rw [List.isEmpty_eq_false_iff]; exact h1
  have hb0 : ((bt s 0) == 45) = true := by rw [beq_iff_eq]; exact h45
  have hbt : ∀ h, ((s[0]'h).toNat : Int) = bt s 0 := fun h => bt_at s 0 h
  have hpart : (!((s.extract 1 s.size).toList == s.toList)) = true := part_ne s h0
  have hle : (s.extract 1 s.size).size ≤ maxLen := by simp; omega
  have hneg : wrap64 (-wrap64 9223372036854775808) < 0 := by rw [least_neg]; decide
  have hma := method_below
  have hta := assert_below
  have HN := Lib.hid hn
  clear hn
  have HD := Lib.hid hd
  clear hd h45
  go_enter Tryd.func42, Tryd.ntmps42
  go_wp2_with fail
  refine wp_scope_jumps 0 (fun _ _ => False) (fun _ _ => 0) rfl ?_ ?_
  · go_wp2_with fail
    refine (digits_yes _ _ hle HD.out).mono ?_
    rintro e w1 ⟨rfl, hb⟩
    rw [HN.out]
    go_wp2
    simp only [Exit.jump]
    go_ret2
    exact ⟨ret2 least_neg rfl, hb⟩
  · exact fun _ _ h => h.elim
set_option maxHeartbeats 4000000 in
set_option maxRecDepth 100000 in
/-- With a sign: no number. -/
theorem parse_nought (s : ByteArray) (w : World) (hs : s.size ≤ maxLen) (h0 : 0 < s.size) (h45 : bt s 0 = 45) (hd : digitsB (s.extract 1 s.size) = true) (hn : digN (s.extract 1 s.size) (s.extract 1 s.size).size = 0) :
    Calls Tryd.prog 42 #[.string s] w (Told w (0, 10)) := by
  have h1 := not_empty_of s h0
  have h2 : s.toList.isEmpty = false := by rw [List.isEmpty_eq_false_iff]; exact h1
  have hb0 : ((bt s 0) == 45) = true := by rw [beq_iff_eq]; exact h45
  have hbt : ∀ h, ((s[0]'h).toNat : Int) = bt s 0 := fun h => bt_at s 0 h
  have hpart : (!((s.extract 1 s.size).toList == s.toList)) = true := part_ne s h0
  have hle : (s.extract 1 s.size).size ≤ maxLen := by simp; omega
  have hma := method_below
  have hta := assert_below
  have HN := Lib.hid hn
  clear hn
  have HD := Lib.hid hd
  clear hd h45
  go_enter Tryd.func42, Tryd.ntmps42
  go_wp2_with fail
  refine wp_scope_jumps 0 (AtWrong w) (fun _ _ => 0) rfl ?_ ?_
  · go_wp2_with fail
    refine (digits_yes _ _ hle HD.out).mono ?_
    rintro e w1 ⟨rfl, hb⟩
    rw [HN.out]
    go_wp2
    try go_step3
    go_wp2
    simp only [Exit.jump]
    go_ret2
    exact ⟨rfl, hb⟩
  · rintro ⟨tmps, defers⟩ w' ⟨hd, hs, hb⟩
    go_wp2_with fail
    simp only [Exit.jump]
    refine bodyPost_ret (results_tmp2 rfl _ _ _) rfl ⟨?_, hb⟩
    simp [hs]
set_option maxHeartbeats 4000000 in
set_option maxRecDepth 100000 in
/-- With a sign: too great. -/
theorem parse_ngreat (s : ByteArray) (w : World) (hs : s.size ≤ maxLen) (h0 : 0 < s.size) (h45 : bt s 0 = 45) (hd : digitsB (s.extract 1 s.size) = true) (n : Int) (hn : digN (s.extract 1 s.size) ((s.extract 1 s.size)).size = n) (hn1 : 9223372036854775808 < n) :
    Calls Tryd.prog 42 #[.string s] w (Told w (0, 10)) := by
  have h1 := not_empty_of s h0
  have h2 : s.toList.isEmpty = false := by rw [List.isEmpty_eq_false_iff]; exact h1
  have hb0 : ((bt s 0) == 45) = true := by rw [beq_iff_eq]; exact h45
  have hbt : ∀ h, ((s[0]'h).toNat : Int) = bt s 0 := fun h => bt_at s 0 h
  have hpart : (!((s.extract 1 s.size).toList == s.toList)) = true := part_ne s h0
  have hle : (s.extract 1 s.size).size ≤ maxLen := by simp; omega
  have hma := method_below
  have hta := assert_below
  have HN := Lib.hid hn
  clear hn
  have HD := Lib.hid hd
  clear hd h45
  go_enter Tryd.func42, Tryd.ntmps42
  go_wp2_with fail
  refine wp_scope_jumps 0 (AtWrong w) (fun _ _ => 0) rfl ?_ ?_
  · go_wp2_with fail
    refine (digits_yes _ _ hle HD.out).mono ?_
    rintro e w1 ⟨rfl, hb⟩
    rw [HN.out]
    go_wp2
    try go_step3
    go_wp2
    simp only [Exit.jump]
    go_ret2
    exact ⟨rfl, hb⟩
  · rintro ⟨tmps, defers⟩ w' ⟨hd, hs, hb⟩
    go_wp2_with fail
    simp only [Exit.jump]
    refine bodyPost_ret (results_tmp2 rfl _ _ _) rfl ⟨?_, hb⟩
    simp [hs]

theorem digN_nonneg (s : ByteArray) (h : digitsB s = true) : 0 ≤ digN s s.size := (digN_bd s s.size ((digitsB_iff s).mp h).2.2).1
theorem ints_Parse.calls (a0 : ByteArray) (r1 : Int) (r2 : Int) (w : World) (h : ints_Parse.f a0 = some (r1, r2)) :
    Calls Tryd.prog 42 #[.string a0] w fun e w' => e = .returned (.tuple #[.int .i64 r1, .int .i64 r2]) ∧ Below w.heap.size w w' := by
  unfold ints_Parse.f at h
  split at h
  case isFalse => cases h
  rename_i hs
  have hs' : a0.size ≤ maxLen := hs
  have h := Option.some.inj h
  show Calls Tryd.prog 42 #[.string a0] w (Told w (r1, r2))
  rw [← h]
  clear h
  by_cases h0 : 0 < a0.size
  · by_cases h45 : bt a0 0 = 45
    · rw [if_pos ⟨h0, h45⟩]
      cases hd : digitsB (a0.extract 1 a0.size) with
      | false => rw [parseOf, hd, if_neg (by decide)]; exact parse_nnot a0 w hs' h0 h45 hd
      | true =>
        have hnn := digN_nonneg _ hd
        rw [parseOf, hd, if_pos rfl, if_pos rfl]
        generalize hn : digN (a0.extract 1 a0.size) (a0.extract 1 a0.size).size = n at *
        by_cases h1 : 0 < n ∧ n ≤ 9223372036854775808
        · rw [if_pos h1]
          by_cases h2 : n ≤ 9223372036854775807
          · exact parse_below a0 w hs' h0 h45 hd n hn h1.1 h2
          · obtain rfl : n = 9223372036854775808 := by omega
            exact parse_least a0 w hs' h0 h45 hd hn
        · rw [if_neg h1]
          by_cases h2 : n = 0
          · exact parse_nought a0 w hs' h0 h45 hd (hn.trans h2)
          · exact parse_ngreat a0 w hs' h0 h45 hd n hn (by omega)
    · rw [if_neg (fun h => h45 h.2)]
      cases hd : digitsB a0 with
      | false => rw [parseOf, hd, if_neg (by decide)]; exact parse_not a0 w hs' h0 h45 hd
      | true =>
        have hnn := digN_nonneg _ hd
        rw [parseOf, hd, if_pos rfl, if_neg (by decide)]
        generalize hn : digN a0 a0.size = n at *
        by_cases h1 : n ≤ 9223372036854775807
        · rw [if_pos h1]; exact parse_above a0 w hs' h0 h45 hd n hn hnn h1
        · rw [if_neg h1]; exact parse_great a0 w hs' h0 h45 hd n hn (by omega)
  · rw [if_neg (fun h => h0 h.1), parseOf, if_neg (by simp [digitsB, show a0.size = 0 by omega])]
    exact parse_empty a0 (by omega) w
end Go.Proofs.YtegmbgjolnbgpaaDoor.P
