/- What 'ints.Parse' answers, at every text. Conditions: the text has fewer than 2^63 bytes. -/
import Derived.Test.YtjcbbmjmhfimcaaDoorPH1
import Derived.WalkSpells
namespace Go.Proofs.YtjcbbmjmhfimcaaDoor.P
open Go.RowKit Go.Lib Go.Proofs.YtjcbbmjmhfimcaaDoorW.PrintWords Go.Proofs.YtjcbbmjmhfimcaaDoorW.PrintLast Go.Proofs.YtjcbbmjmhfimcaaDoorW.PrintMore

/-- Are these the digits of a number without a sign? -/
def digitsB (s : ByteArray) : Bool := decide (0 < s.size) && decide (s.size < 20) && (List.range s.size).all fun i => !badAt s i
theorem digitsB_iff (s : ByteArray) : digitsB s = true ↔ digitsR s := by
  simp [digitsB, digitsR, and_assoc]
theorem digits_yes (s : ByteArray) (w : World) (hs : s.size ≤ maxLen) (h : digitsB s = true) :
    Calls Tryd.prog 77 #[.string s] w fun e w' => e = .returned (.tuple #[.int .u64 (digN s s.size), .bool true]) ∧ Below w.heap.size w w' := by
  refine (digits_any s w hs _ rfl).mono ?_
  rintro e w' ⟨n, ok, rfl, h1, _, hb⟩
  obtain ⟨rfl, rfl⟩ := h1 ((digitsB_iff s).mp h)
  exact ⟨rfl, hb⟩
def NoDigits (w : World) (e : Ending) (w' : World) : Prop := ∃ n : Int, e = .returned (.tuple #[.int .u64 n, .bool false]) ∧ Below w.heap.size w w'
theorem digits_no (s : ByteArray) (w : World) (hs : s.size ≤ maxLen) (h : digitsB s = false) : Calls Tryd.prog 77 #[.string s] w (NoDigits w) := by
  refine (digits_any s w hs _ rfl).mono ?_
  rintro e w' ⟨n, ok, rfl, _, h2, hb⟩
  obtain rfl := h2 (fun hd => by rw [(digitsB_iff s).mpr hd] at h; cases h)
  exact ⟨n, rfl, hb⟩
/-- The number of digits behind a sign, or without one. -/
def parseOf (neg : Bool) (rest : ByteArray) : Int × Int :=
  if digitsB rest = true then
    (if neg = true then (if 0 < digN rest rest.size ∧ digN rest rest.size ≤ 9223372036854775808 then (-digN rest rest.size, 0) else (0, 10))
     else (if digN rest rest.size ≤ 9223372036854775807 then (digN rest rest.size, 0) else (0, 10)))
  else (0, 10)
def ints_Parse.f (s : ByteArray) : Option (Int × Int) :=
  if s.size ≤ 9223372036854775807 then some (if 0 < s.size ∧ bt s 0 = 45 then parseOf true (s.extract 1 s.size) else parseOf false s) else none
/-- What holds where the text jumps to what is told of a wrong text. -/
def AtWrong (w : World) (a' : Act) (w' : World) : Prop := a'.defers = [] ∧ a'.tmps.size = 52 ∧ Below w.heap.size w w'
def Told (w : World) (v : Int × Int) (e : Ending) (w' : World) : Prop := e = .returned (.tuple #[.int .i64 v.1, .int .i64 v.2]) ∧ Below w.heap.size w w'
set_option maxHeartbeats 4000000 in
set_option maxRecDepth 100000 in
theorem parse_empty (s : ByteArray) (h0 : s.size = 0) (w : World) : Calls Tryd.prog 75 #[.string s] w (Told w (0, 10)) := by
  have h1 := empty_of s h0
  have hd : digitsB s = false := by simp [digitsB, h0]
  have HD := Lib.hid hd
  have H0 := Lib.hid h0
  clear hd h0
  go_enter Tryd.func75, Tryd.ntmps75
  go_wp2_with fail
  refine wp_scope_jumps 0 (AtWrong w) (fun _ _ => 0) rfl ?_ ?_
  · go_wp2_with fail
    refine (digits_no s _ (by rw [H0.out]; exact Nat.zero_le _) HD.out).mono ?_
    rintro e w1 ⟨n, rfl, hb⟩
    go_wp2_with fail
    go_step3
    exact ⟨rfl, rfl, rfl, hb⟩
  · rintro ⟨tmps, defers⟩ w' ⟨hd, hs, hb⟩
    go_wp2_with fail
    simp only [Exit.jump]
    refine bodyPost_ret (results_tmp2 rfl _ _ _) rfl ⟨?_, hb⟩
    simp [hs]
theorem method_above (n : Int) (w : World) : (method 282 154 (.int .u64 n) "palio/ints.value").run Tryd.prog w = .ok (107, .int .u64 n) w := by kernel_rfl
theorem method_below (n : Int) (w : World) : (method 282 155 (.int .u64 n) "palio/ints.value").run Tryd.prog w = .ok (108, .int .u64 n) w := by kernel_rfl
theorem assert_above (n : Int) (w : World) : (Instr.typeAssert (.iface 154 (.int .u64 n)) 151 155 true).run Tryd.prog w = .ok (.tuple #[.int .u64 0, .bool false]) w := by kernel_rfl
theorem assert_below (n : Int) (w : World) : (Instr.typeAssert (.iface 155 (.int .u64 n)) 151 155 true).run Tryd.prog w = .ok (.tuple #[.int .u64 n, .bool true]) w := by kernel_rfl
set_option maxHeartbeats 4000000 in
set_option maxRecDepth 100000 in
/-- Without a sign: no digits. -/
theorem parse_not (s : ByteArray) (w : World) (hs : s.size ≤ maxLen) (h0 : 0 < s.size) (h45 : ¬ bt s 0 = 45) (hd : digitsB s = false) :
    Calls Tryd.prog 75 #[.string s] w (Told w (0, 10)) := by
  have h1 := not_empty_of s h0
  have h2 : s.toList.isEmpty = false := by rw [List.isEmpty_eq_false_iff]; exact h1
  have hb0 : ((bt s 0) == 45) = false := by rw [beq_eq_false_iff_ne]; exact h45
  have hbt : ∀ h, ((s[0]'h).toNat : Int) = bt s 0 := fun h => bt_at s 0 h
  have HD := Lib.hid hd
  clear hd h45
  go_enter Tryd.func75, Tryd.ntmps75
  go_wp2_with fail
  refine wp_scope_jumps 0 (AtWrong w) (fun _ _ => 0) rfl ?_ ?_
  · go_wp2_with fail
    refine (digits_no _ _ hs HD.out).mono ?_
    rintro e w1 ⟨n, rfl, hb⟩
    go_wp2_with fail
    go_step3
    exact ⟨rfl, rfl, rfl, hb⟩
  · rintro ⟨tmps, defers⟩ w' ⟨hd, hs, hb⟩
    go_wp2_with fail
    simp only [Exit.jump]
    refine bodyPost_ret (results_tmp2 rfl _ _ _) rfl ⟨?_, hb⟩
    simp [hs]
set_option maxHeartbeats 4000000 in
set_option maxRecDepth 100000 in
/-- Without a sign: the digits are some. -/
theorem parse_above (s : ByteArray) (w : World) (hs : s.size ≤ maxLen) (h0 : 0 < s.size) (h45 : ¬ bt s 0 = 45) (hd : digitsB s = true) (n : Int) (hn : digN s (s).size = n) (hn0 : 0 ≤ n) (hn1 : n ≤ 9223372036854775807) :
    Calls Tryd.prog 75 #[.string s] w (Told w (n, 0)) := by
  have h1 := not_empty_of s h0
  have h2 : s.toList.isEmpty = false := by rw [List.isEmpty_eq_false_iff]; exact h1
  have hb0 : ((bt s 0) == 45) = false := by rw [beq_eq_false_iff_ne]; exact h45
  have hbt : ∀ h, ((s[0]'h).toNat : Int) = bt s 0 := fun h => bt_at s 0 h
  have hma := method_above
  have hta := assert_above
  have HN := Lib.hid hn
  clear hn
  have hlt : decide (n < 0) = false := decide_eq_false (by omega)
  have HD := Lib.hid hd
  clear hd h45
  go_enter Tryd.func75, Tryd.ntmps75
  go_wp2_with fail
  refine wp_scope_jumps 0 (fun _ _ => False) (fun _ _ => 0) rfl ?_ ?_
  · go_wp2_with fail
    refine (digits_yes _ _ hs HD.out).mono ?_
    rintro e w1 ⟨rfl, hb⟩
    rw [HN.out]
    go_wp2
    simp only [Exit.jump]
    go_ret2
    exact ⟨rfl, hb⟩
  · exact fun _ _ h => h.elim
set_option maxHeartbeats 4000000 in
set_option maxRecDepth 100000 in
/-- Without a sign: too great. -/
theorem parse_great (s : ByteArray) (w : World) (hs : s.size ≤ maxLen) (h0 : 0 < s.size) (h45 : ¬ bt s 0 = 45) (hd : digitsB s = true) (n : Int) (hn : digN s (s).size = n) (hn1 : 9223372036854775807 < n) :
    Calls Tryd.prog 75 #[.string s] w (Told w (0, 10)) := by
  have h1 := not_empty_of s h0
  have h2 : s.toList.isEmpty = false := by rw [List.isEmpty_eq_false_iff]; exact h1
  have hb0 : ((bt s 0) == 45) = false := by rw [beq_eq_false_iff_ne]; exact h45
  have hbt : ∀ h, ((s[0]'h).toNat : Int) = bt s 0 := fun h => bt_at s 0 h
  have hma := method_above
  have hta := assert_above
  have HN := Lib.hid hn
  clear hn
  have HD := Lib.hid hd
  clear hd h45
  go_enter Tryd.func75, Tryd.ntmps75
  go_wp2_with fail
  refine wp_scope_jumps 0 (AtWrong w) (fun _ _ => 0) rfl ?_ ?_
  · go_wp2_with fail
    refine (digits_yes _ _ hs HD.out).mono ?_
    rintro e w1 ⟨rfl, hb⟩
    rw [HN.out]
    go_wp2
    try go_step3
    go_wp2_with fail
    simp only [Exit.jump]
    go_ret2
    exact ⟨rfl, hb⟩
  · rintro ⟨tmps, defers⟩ w' ⟨hd, hs, hb⟩
    go_wp2_with fail
    simp only [Exit.jump]
    refine bodyPost_ret (results_tmp2 rfl _ _ _) rfl ⟨?_, hb⟩
    simp [hs]
theorem ret2 {a b c d : Int} (h : a = c) (h2 : b = d) : Ending.returned (.tuple #[.int .i64 a, .int .i64 b]) = .returned (.tuple #[.int .i64 c, .int .i64 d]) := by rw [h, h2]
theorem least_neg : wrap64 (-wrap64 9223372036854775808) = -9223372036854775808 := by decide +kernel
theorem part_ne (s : ByteArray) (h0 : 0 < s.size) : (!((s.extract 1 s.size).toList == s.toList)) = true := by
  rw [Bool.not_eq_true', beq_eq_false_iff_ne, Go.ByteArray.toList_eq, Go.ByteArray.toList_eq]
  intro h
  have h1 := congrArg List.length h
  simp at h1
  have h2 : s.size = s.data.size := rfl
  omega
set_option maxHeartbeats 4000000 in
set_option maxRecDepth 100000 in
/-- With a sign: no digits. -/
theorem parse_nnot (s : ByteArray) (w : World) (hs : s.size ≤ maxLen) (h0 : 0 < s.size) (h45 : bt s 0 = 45) (hd : digitsB (s.extract 1 s.size) = false) :
    Calls Tryd.prog 75 #[.string s] w (Told w (0, 10)) := by
  have h1 := not_empty_of s h0
  have h2 : s.toList.isEmpty = false := by rw [List.isEmpty_eq_false_iff]; exact h1
  have hb0 : ((bt s 0) == 45) = true := by rw [beq_iff_eq]; exact h45
  have hbt : ∀ h, ((s[0]'h).toNat : Int) = bt s 0 := fun h => bt_at s 0 h
  have hpart : (!((s.extract 1 s.size).toList == s.toList)) = true := part_ne s h0
  have hle : (s.extract 1 s.size).size ≤ maxLen := by simp; omega
  have HD := Lib.hid hd
  clear hd h45
  go_enter Tryd.func75, Tryd.ntmps75
  go_wp2_with fail
  refine wp_scope_jumps 0 (AtWrong w) (fun _ _ => 0) rfl ?_ ?_
  · go_wp2_with fail
    refine (digits_no _ _ hle HD.out).mono ?_
    rintro e w1 ⟨n, rfl, hb⟩
    go_wp2_with fail
    go_step3
    exact ⟨rfl, rfl, rfl, hb⟩
  · rintro ⟨tmps, defers⟩ w' ⟨hd, hs, hb⟩
    go_wp2_with fail
    simp only [Exit.jump]
    refine bodyPost_ret (results_tmp2 rfl _ _ _) rfl ⟨?_, hb⟩
    simp [hs]
set_option maxHeartbeats 4000000 in
set_option maxRecDepth 100000 in
/-- With a sign: the digits are some. -/
theorem parse_below (s : ByteArray) (w : World) (hs : s.size ≤ maxLen) (h0 : 0 < s.size) (h45 : bt s 0 = 45) (hd : digitsB (s.extract 1 s.size) = true) (n : Int) (hn : digN (s.extract 1 s.size) ((s.extract 1 s.size)).size = n) (hn1 : 0 < n) (hn2 : n ≤ 9223372036854775807) :
    Calls Tryd.prog 75 #[.string s] w (Told w (-n, 0)) := by
  have h1 := not_empty_of s h0
  have h2 : s.toList.isEmpty = false := by rw [List.isEmpty_eq_false_iff]; exact h1
  have hb0 : ((bt s 0) == 45) = true := by rw [beq_iff_eq]; exact h45
  have hbt : ∀ h, ((s[0]'h).toNat : Int) = bt s 0 := fun h => bt_at s 0 h
  have hpart : (!((s.extract 1 s.size).toList == s.toList)) = true := part_ne s h0
  have hle : (s.extract 1 s.size).size ≤ maxLen := by simp; omega
  have hma := method_below
  have hta := assert_below
  have HN := Lib.hid hn
  clear hn
  have HD := Lib.hid hd
  clear hd h45
  go_enter Tryd.func75, Tryd.ntmps75
  go_wp2_with fail
  refine wp_scope_jumps 0 (fun _ _ => False) (fun _ _ => 0) rfl ?_ ?_
  · go_wp2_with fail
    refine (digits_yes _ _ hle HD.out).mono ?_
    rintro e w1 ⟨rfl, hb⟩
    rw [HN.out]
    go_wp2
    simp only [Exit.jump]
    go_ret2
    exact ⟨rfl, hb⟩
  · exact fun _ _ h => h.elim
set_option maxHeartbeats 4000000 in
set_option maxRecDepth 100000 in
/-- With a sign: the least of all. -/
theorem parse_least (s : ByteArray) (w : World) (hs : s.size ≤ maxLen) (h0 : 0 < s.size) (h45 : bt s 0 = 45) (hd : digitsB (s.extract 1 s.size) = true) (hn : digN (s.extract 1 s.size) (s.extract 1 s.size).size = 9223372036854775808) :
    Calls Tryd.prog 75 #[.string s] w (Told w (-9223372036854775808, 0)) := by
  have h1 := not_empty_of s h0
  have h2 : s.toList.isEmpty = false := by rw [List.isEmpty_eq_false_iff]; exact h1
  have hb0 : ((bt s 0) == 45) = true := by rw [beq_iff_eq]; exact h45
  have hbt : ∀ h, ((s[0]'h).toNat : Int) = bt s 0 := fun h => bt_at s 0 h
  have hpart : (!((s.extract 1 s.size).toList == s.toList)) = true := part_ne s h0
  have hle : (s.extract 1 s.size).size ≤ maxLen := by simp; omega
  have hneg : wrap64 (-wrap64 9223372036854775808) < 0 := by rw [least_neg]; decide
  have hma := method_below
  have hta := assert_below
  have HN := Lib.hid hn
  clear hn
  have HD := Lib.hid hd
  clear hd h45
  go_enter Tryd.func75, Tryd.ntmps75
  go_wp2_with fail
  refine wp_scope_jumps 0 (fun _ _ => False) (fun _ _ => 0) rfl ?_ ?_
  · go_wp2_with fail
    refine (digits_yes _ _ hle HD.out).mono ?_
    rintro e w1 ⟨rfl, hb⟩
    rw [HN.out]
    go_wp2
    simp only [Exit.jump]
    go_ret2
    exact ⟨ret2 least_neg rfl, hb⟩
  · exact fun _ _ h => h.elim
set_option maxHeartbeats 4000000 in
set_option maxRecDepth 100000 in
/-- With a sign: no number. -/
theorem parse_nought (s : ByteArray) (w : World) (hs : s.size ≤ maxLen) (h0 : 0 < s.size) (h45 : bt s 0 = 45) (hd : digitsB (s.extract 1 s.size) = true) (hn : digN (s.extract 1 s.size) (s.extract 1 s.size).size = 0) :
    Calls Tryd.prog 75 #[.string s] w (Told w (0, 10)) := by
  have h1 := not_empty_of s h0
  have h2 : s.toList.isEmpty = false := by rw [List.isEmpty_eq_false_iff]; exact h1
  have hb0 : ((bt s 0) == 45) = true := by rw [beq_iff_eq]; exact h45
  have hbt : ∀ h, ((s[0]'h).toNat : Int) = bt s 0 := fun h => bt_at s 0 h
  have hpart : (!((s.extract 1 s.size).toList == s.toList)) = true := part_ne s h0
  have hle : (s.extract 1 s.size).size ≤ maxLen := by simp; omega
  have hma := method_below
  have hta := assert_below
  have HN := Lib.hid hn
  clear hn
  have HD := Lib.hid hd
  clear hd h45
  go_enter Tryd.func75, Tryd.ntmps75
  go_wp2_with fail
  refine wp_scope_jumps 0 (AtWrong w) (fun _ _ => 0) rfl ?_ ?_
  · go_wp2_with fail
    refine (digits_yes _ _ hle HD.out).mono ?_
    rintro e w1 ⟨rfl, hb⟩
    rw [HN.out]
    go_wp2
    try go_step3
    go_wp2
    simp only [Exit.jump]
    go_ret2
    exact ⟨rfl, hb⟩
  · rintro ⟨tmps, defers⟩ w' ⟨hd, hs, hb⟩
    go_wp2_with fail
    simp only [Exit.jump]
    refine bodyPost_ret (results_tmp2 rfl _ _ _) rfl ⟨?_, hb⟩
    simp [hs]
set_option maxHeartbeats 4000000 in
set_option maxRecDepth 100000 in
/-- With a sign: too great. -/
theorem parse_ngreat (s : ByteArray) (w : World) (hs : s.size ≤ maxLen) (h0 : 0 < s.size) (h45 : bt s 0 = 45) (hd : digitsB (s.extract 1 s.size) = true) (n : Int) (hn : digN (s.extract 1 s.size) ((s.extract 1 s.size)).size = n) (hn1 : 9223372036854775808 < n) :
    Calls Tryd.prog 75 #[.string s] w (Told w (0, 10)) := by
  have h1 := not_empty_of s h0
  have h2 : s.toList.isEmpty = false := by rw [List.isEmpty_eq_false_iff]; exact h1
  have hb0 : ((bt s 0) == 45) = true := by rw [beq_iff_eq]; exact h45
  have hbt : ∀ h, ((s[0]'h).toNat : Int) = bt s 0 := fun h => bt_at s 0 h
  have hpart : (!((s.extract 1 s.size).toList == s.toList)) = true := part_ne s h0
  have hle : (s.extract 1 s.size).size ≤ maxLen := by simp; omega
  have hma := method_below
  have hta := assert_below
  have HN := Lib.hid hn
  clear hn
  have HD := Lib.hid hd
  clear hd h45
  go_enter Tryd.func75, Tryd.ntmps75
  go_wp2_with fail
  refine wp_scope_jumps 0 (AtWrong w) (fun _ _ => 0) rfl ?_ ?_
  · go_wp2_with fail
    refine (digits_yes _ _ hle HD.out).mono ?_
    rintro e w1 ⟨rfl, hb⟩
    rw [HN.out]
    go_wp2
    try go_step3
    go_wp2
    simp only [Exit.jump]
    go_ret2
    exact ⟨rfl, hb⟩
  · rintro ⟨tmps, defers⟩ w' ⟨hd, hs, hb⟩
    go_wp2_with fail
    simp only [Exit.jump]
    refine bodyPost_ret (results_tmp2 rfl _ _ _) rfl ⟨?_, hb⟩
    simp [hs]

theorem digN_nonneg (s : ByteArray) (h : digitsB s = true) : 0 ≤ digN s s.size := (digN_bd s s.size ((digitsB_iff s).mp h).2.2).1
theorem ints_Parse.calls (a0 : ByteArray) (r1 : Int) (r2 : Int) (w : World) (h : ints_Parse.f a0 = some (r1, r2)) :
    Calls Tryd.prog 75 #[.string a0] w fun e w' => e = .returned (.tuple #[.int .i64 r1, .int .i64 r2]) ∧ Below w.heap.size w w' := by
  unfold ints_Parse.f at h
  split at h
  case isFalse => cases h
  rename_i hs
  have hs' : a0.size ≤ maxLen := hs
  have h := Option.some.inj h
  show Calls Tryd.prog 75 #[.string a0] w (Told w (r1, r2))
  rw [← h]
  clear h
  by_cases h0 : 0 < a0.size
  · by_cases h45 : bt a0 0 = 45
    · rw [if_pos ⟨h0, h45⟩]
      cases hd : digitsB (a0.extract 1 a0.size) with
      | false => rw [parseOf, hd, if_neg (by decide)]; exact parse_nnot a0 w hs' h0 h45 hd
      | true =>
        have hnn := digN_nonneg _ hd
        rw [parseOf, hd, if_pos rfl, if_pos rfl]
        generalize hn : digN (a0.extract 1 a0.size) (a0.extract 1 a0.size).size = n at *
        by_cases h1 : 0 < n ∧ n ≤ 9223372036854775808
        · rw [if_pos h1]
          by_cases h2 : n ≤ 9223372036854775807
          · exact parse_below a0 w hs' h0 h45 hd n hn h1.1 h2
          · obtain rfl : n = 9223372036854775808 := by omega
            exact parse_least a0 w hs' h0 h45 hd hn
        · rw [if_neg h1]
          by_cases h2 : n = 0
          · exact parse_nought a0 w hs' h0 h45 hd (hn.trans h2)
          · exact parse_ngreat a0 w hs' h0 h45 hd n hn (by omega)
    · rw [if_neg (fun h => h45 h.2)]
      cases hd : digitsB a0 with
      | false => rw [parseOf, hd, if_neg (by decide)]; exact parse_not a0 w hs' h0 h45 hd
      | true =>
        have hnn := digN_nonneg _ hd
        rw [parseOf, hd, if_pos rfl, if_neg (by decide)]
        generalize hn : digN a0 a0.size = n at *
        by_cases h1 : n ≤ 9223372036854775807
        · rw [if_pos h1]; exact parse_above a0 w hs' h0 h45 hd n hn hnn h1
        · rw [if_neg h1]; exact parse_great a0 w hs' h0 h45 hd n hn (by omega)
  · rw [if_neg (fun h => h0 h.1), parseOf, if_neg (by simp [digitsB, show a0.size = 0 by omega])]
    exact parse_empty a0 (by omega) w
end Go.Proofs.YtjcbbmjmhfimcaaDoor.P
