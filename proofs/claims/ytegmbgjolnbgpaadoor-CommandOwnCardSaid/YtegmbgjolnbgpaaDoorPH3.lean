/- What 'bound.split' answers, at every text and every list of ASCII characters. Conditions: the text has fewer than 2^63 bytes, the characters are below 128. -/
import Derived.Test.YtegmbgjolnbgpaaDoorPH2
import Derived.WalkSpells
namespace Go.Proofs.YtegmbgjolnbgpaaDoor.P
open Go.RowKit Go.Lib Go.Proofs.YtegmbgjolnbgpaaDoorW.PrintWords Go.Proofs.YtegmbgjolnbgpaaDoorW.PrintLast Go.Proofs.YtegmbgjolnbgpaaDoorW.PrintMore

/-- The first character of a text, if it is one of one, of two. -/
def bound_split.f (a0 : ByteArray) (l1 : List Int) : Option (Int × ByteArray) :=
  if a0.size ≤ 9223372036854775807 ∧ (l1.length = 1 ∨ l1.length = 2) ∧ l1.all (fun x => decide (0 < x) && decide (x < 128)) = true then
    some (if 0 < a0.size ∧ bt a0 0 ∈ l1 then (bt a0 0, a0.extract 1 a0.size) else (0, a0))
  else none
def SplitPost (w : World) (r : Int) (t : ByteArray) (e : Ending) (w' : World) : Prop := e = .returned (.tuple #[.int .i32 r, .string t]) ∧ Below w.heap.size w w'
theorem iter_start (w : World) (s : ByteArray) : (w.iter s 0).heap[w.heap.size]? = some (.stringIter s 0) := World.iter_heap _ _ _
/-- The world in which the first character has been told. -/
def W1 (w : World) (s : ByteArray) (d : Nat) : World := (w.iter s 0).iterAt w.heap.size s d
theorem W1_below (w : World) (s : ByteArray) (d : Nat) : Below w.heap.size w (W1 w s d) := below_iterAt (below_iter' (Below.refl _ _) _ _) (Nat.le_refl _) s d
theorem W1_heap (w : World) (s : ByteArray) (d : Nat) : (W1 w s d).heap[w.heap.size]? = some (.stringIter s d) := iterAt_heap _ _ _ _ _ (iter_start w s)
theorem W1_cell (w : World) (s : ByteArray) (d : Nat) (a : Addr) (v : Value) (h : w.cell? a = some v) : (W1 w s d).cell? a = some v :=
  ((W1_below w s d).cell (World.block_lt_of_cell? w _ h)).trans h
/-- The first step, told: a character r. -/
def Nx (P : Program) (w : World) (s : ByteArray) (r : Int) (d : Nat) : Prop := ∀ ty, (Instr.next (.pointer (some ⟨w.heap.size, 0, none⟩)) true ty).run P (w.iter s 0) = .ok (.tuple #[.bool true, .int .i64 0, .int .i32 r]) (W1 w s d)
theorem first_of (P : Program) (w : World) (s : ByteArray) (h0 : 0 < s.size) : ∃ (r : Int) (d : Nat), Nx P w s r d ∧ 1 ≤ d ∧ (bt s 0 < 128 → r = bt s 0 ∧ d = 1) ∧ (128 ≤ bt s 0 → 128 ≤ r) := by
  obtain ⟨r, d, hnx, hd1, hr0, hasc, hh⟩ := next_of P (w.iter s 0) w.heap.size s 0 (iter_start w s) h0
  exact ⟨r, d, fun ty => by simpa [W1] using hnx ty, hd1, by simpa using hasc, by simpa using hh⟩
set_option maxHeartbeats 8000000 in
set_option maxRecDepth 100000 in
/-- No first character. -/
theorem split1_empty (s : ByteArray) (w : World) (ad : Addr) (c : Nat) (h0 : s.size = 0) :
    Calls Tryd.prog 67 #[.string s, .slice (some ad) 1 c] w (SplitPost w 0 s) := by
  have hn : ∀ ty, (Instr.next (.pointer (some ⟨w.heap.size, 0, none⟩)) true ty).run Tryd.prog (w.iter s 0) = _ := fun ty => run_next_end_at (w.iter s 0) w.heap.size s 0 ty (iter_start w s) (by omega)
  clear h0
  go_enter Tryd.func67, Tryd.ntmps67
  go_wp2
  go_step3
  go_wp2
  try go_step3
  go_wp2
  refine wp_loop_rounds 1 ?_
  rw [rounds_succ]
  go_wp2
  go_ret2
  exact ⟨rfl, by repeat (first | exact Below.refl _ _ | apply below_iter' | (refine below_iterAt ?_ (Nat.le_refl _) _ _) | apply below_drew1 | apply below_alloc)⟩
set_option maxHeartbeats 8000000 in
set_option maxRecDepth 100000 in
/-- The first character is the first one. -/
theorem split1_yes (s : ByteArray) (w : World) (ad : Addr) (c : Nat) (x : Int) (hx : w.cell? ad = some (.int .i32 x)) (r : Int) (d : Nat) (hsz : 1 ≤ s.size) (hnx : Nx Tryd.prog w s r d) (hq : (r == x) = true) :
    Calls Tryd.prog 67 #[.string s, .slice (some ad) 1 c] w (SplitPost w r (s.extract 1 s.size)) := by
  have hnx' := hnx
  unfold Nx at hnx'
  have hx' := W1_cell w s d _ _ hx
  clear hnx hx
  go_enter Tryd.func67, Tryd.ntmps67
  go_wp2
  go_step3
  go_wp2
  try go_step3
  go_wp2
  refine wp_loop_rounds 1 ?_
  rw [rounds_succ]
  go_wp2
  refine wp_loop_rounds 1 ?_
  rw [rounds_succ]
  go_wp2
  go_region
  all_goals
    go_wp2
    go_ret2
    exact ⟨rfl, by repeat (first | exact W1_below w s d | apply below_drew1 | apply below_alloc)⟩
set_option maxHeartbeats 8000000 in
set_option maxRecDepth 100000 in
/-- The first character is none of them. -/
theorem split1_no (s : ByteArray) (w : World) (ad : Addr) (c : Nat) (x : Int) (hx : w.cell? ad = some (.int .i32 x)) (r : Int) (d : Nat) (hd : 1 ≤ d) (hnx : Nx Tryd.prog w s r d) (hp : (r == x) = false) :
    Calls Tryd.prog 67 #[.string s, .slice (some ad) 1 c] w (SplitPost w 0 s) := by
  have hnx' := hnx
  unfold Nx at hnx'
  have hx' := W1_cell w s d _ _ hx
  clear hnx hx
  go_enter Tryd.func67, Tryd.ntmps67
  go_wp2
  go_step3
  go_wp2
  try go_step3
  go_wp2
  refine wp_loop_rounds 2 ?_
  rw [rounds_succ]
  go_wp2
  refine wp_loop_rounds 2 ?_
  rw [rounds_succ]
  go_wp2
  rw [rounds_succ]
  go_wp2
  rw [rounds_succ]
  by_cases hlt : d < s.size
  · have hn2 : ∀ ty, (Instr.next (.pointer (some ⟨w.heap.size, 0, none⟩)) true ty).run Tryd.prog (W1 w s d) = _ := fun ty => run_next_any_at (W1 w s d) w.heap.size s d ty (W1_heap w s d) hlt
    go_wp2
    go_ret2
    exact ⟨rfl, below_iterAt (W1_below w s d) (Nat.le_refl _) _ _⟩
  · have hn2 : ∀ ty, (Instr.next (.pointer (some ⟨w.heap.size, 0, none⟩)) true ty).run Tryd.prog (W1 w s d) = _ := fun ty => run_next_end_at (W1 w s d) w.heap.size s d ty (W1_heap w s d) hlt
    go_wp2
    go_ret2
    exact ⟨rfl, W1_below w s d⟩
set_option maxHeartbeats 8000000 in
set_option maxRecDepth 100000 in
/-- No first character. -/
theorem split2_empty (s : ByteArray) (w : World) (ad : Addr) (c : Nat) (h0 : s.size = 0) :
    Calls Tryd.prog 67 #[.string s, .slice (some ad) 2 c] w (SplitPost w 0 s) := by
  have hn : ∀ ty, (Instr.next (.pointer (some ⟨w.heap.size, 0, none⟩)) true ty).run Tryd.prog (w.iter s 0) = _ := fun ty => run_next_end_at (w.iter s 0) w.heap.size s 0 ty (iter_start w s) (by omega)
  clear h0
  go_enter Tryd.func67, Tryd.ntmps67
  go_wp2
  go_step3
  go_wp2
  try go_step3
  go_wp2
  refine wp_loop_rounds 1 ?_
  rw [rounds_succ]
  go_wp2
  go_ret2
  exact ⟨rfl, by repeat (first | exact Below.refl _ _ | apply below_iter' | (refine below_iterAt ?_ (Nat.le_refl _) _ _) | apply below_drew1 | apply below_alloc)⟩
set_option maxHeartbeats 8000000 in
set_option maxRecDepth 100000 in
/-- The first character is the first one. -/
theorem split2_yes (s : ByteArray) (w : World) (ad : Addr) (c : Nat) (x y : Int) (hx : w.cell? ad = some (.int .i32 x)) (hy : w.cell? { block := ad.block, off := ad.off + 1 } = some (.int .i32 y)) (r : Int) (d : Nat) (hsz : 1 ≤ s.size) (hnx : Nx Tryd.prog w s r d) (hq : (r == x) = true) :
    Calls Tryd.prog 67 #[.string s, .slice (some ad) 2 c] w (SplitPost w r (s.extract 1 s.size)) := by
  have hnx' := hnx
  unfold Nx at hnx'
  have hx' := W1_cell w s d _ _ hx
  have hy' := W1_cell w s d _ _ hy
  clear hnx hx hy
  go_enter Tryd.func67, Tryd.ntmps67
  go_wp2
  go_step3
  go_wp2
  try go_step3
  go_wp2
  refine wp_loop_rounds 1 ?_
  rw [rounds_succ]
  go_wp2
  refine wp_loop_rounds 1 ?_
  rw [rounds_succ]
  go_wp2
  go_region
  all_goals
    go_wp2
    go_ret2
    exact ⟨rfl, by repeat (first | exact W1_below w s d | apply below_drew1 | apply below_alloc)⟩
set_option maxHeartbeats 8000000 in
set_option maxRecDepth 100000 in
/-- The first character is the second one. -/
theorem split2_yes2 (s : ByteArray) (w : World) (ad : Addr) (c : Nat) (x y : Int) (hx : w.cell? ad = some (.int .i32 x)) (hy : w.cell? { block := ad.block, off := ad.off + 1 } = some (.int .i32 y)) (r : Int) (d : Nat) (hsz : 1 ≤ s.size) (hnx : Nx Tryd.prog w s r d) (hp : (r == x) = false) (hq : (r == y) = true) :
    Calls Tryd.prog 67 #[.string s, .slice (some ad) 2 c] w (SplitPost w r (s.extract 1 s.size)) := by
  have hnx' := hnx
  unfold Nx at hnx'
  have hx' := W1_cell w s d _ _ hx
  have hy' := W1_cell w s d _ _ hy
  clear hnx hx hy
  go_enter Tryd.func67, Tryd.ntmps67
  go_wp2
  go_step3
  go_wp2
  try go_step3
  go_wp2
  refine wp_loop_rounds 1 ?_
  rw [rounds_succ]
  go_wp2
  refine wp_loop_rounds 2 ?_
  rw [rounds_succ]
  go_wp2
  rw [rounds_succ]
  go_wp2
  go_region
  all_goals
    go_wp2
    go_ret2
    exact ⟨rfl, by repeat (first | exact W1_below w s d | apply below_drew1 | apply below_alloc)⟩
set_option maxHeartbeats 8000000 in
set_option maxRecDepth 100000 in
/-- The first character is none of them. -/
theorem split2_no (s : ByteArray) (w : World) (ad : Addr) (c : Nat) (x y : Int) (hx : w.cell? ad = some (.int .i32 x)) (hy : w.cell? { block := ad.block, off := ad.off + 1 } = some (.int .i32 y)) (r : Int) (d : Nat) (hd : 1 ≤ d) (hnx : Nx Tryd.prog w s r d) (hp : (r == x) = false) (hq : (r == y) = false) :
    Calls Tryd.prog 67 #[.string s, .slice (some ad) 2 c] w (SplitPost w 0 s) := by
  have hnx' := hnx
  unfold Nx at hnx'
  have hx' := W1_cell w s d _ _ hx
  have hy' := W1_cell w s d _ _ hy
  clear hnx hx hy
  go_enter Tryd.func67, Tryd.ntmps67
  go_wp2
  go_step3
  go_wp2
  try go_step3
  go_wp2
  refine wp_loop_rounds 2 ?_
  rw [rounds_succ]
  go_wp2
  refine wp_loop_rounds 3 ?_
  rw [rounds_succ]
  go_wp2
  rw [rounds_succ]
  go_wp2
  rw [rounds_succ]
  go_wp2
  rw [rounds_succ]
  by_cases hlt : d < s.size
  · have hn2 : ∀ ty, (Instr.next (.pointer (some ⟨w.heap.size, 0, none⟩)) true ty).run Tryd.prog (W1 w s d) = _ := fun ty => run_next_any_at (W1 w s d) w.heap.size s d ty (W1_heap w s d) hlt
    go_wp2
    go_ret2
    exact ⟨rfl, below_iterAt (W1_below w s d) (Nat.le_refl _) _ _⟩
  · have hn2 : ∀ ty, (Instr.next (.pointer (some ⟨w.heap.size, 0, none⟩)) true ty).run Tryd.prog (W1 w s d) = _ := fun ty => run_next_end_at (W1 w s d) w.heap.size s d ty (W1_heap w s d) hlt
    go_wp2
    go_ret2
    exact ⟨rfl, W1_below w s d⟩

theorem cell_int {w : World} {A : Option Addr} {l : List Int} (h : Kd.C (Kd.int .i32) w A l.length l) (i : Nat) (hi : i < l.length) : ∃ ad, A = some ad ∧ w.cell? (ad.add i) = some (.int .i32 (l.getD i 0)) := by
  obtain ⟨ad, c, rfl, _, hk, hc⟩ := Kd.C_get h 0 i (Int.natCast_nonneg _) (by omega)
  have hk' : c = [Value.int .i32 (l.getD i 0)] := hk
  refine ⟨ad, rfl, ?_⟩
  have := hc 0 (.int .i32 (l.getD i 0)) (by rw [hk']; rfl)
  simpa [Kd.int, Kd.scalar] using this
theorem add_one (ad : Addr) : ad.add 1 = { block := ad.block, off := ad.off + 1 } := rfl
theorem bound_split.calls (a0 : ByteArray) (A1 : Option Addr) (c1 : Nat) (l1 : List Int) (r1 : Int) (r2 : ByteArray) (w : World) (hr1 : Kd.C (Kd.int .i32) w A1 l1.length l1) (hc1 : l1.length ≤ c1) (h : bound_split.f a0 l1 = some (r1, r2)) :
    Calls Tryd.prog 67 #[.string a0, .slice A1 l1.length c1] w fun e w' => e = .returned (.tuple #[.int .i32 r1, .string r2]) ∧ Below w.heap.size w w' := by
  show Calls Tryd.prog 67 #[.string a0, .slice A1 l1.length c1] w (SplitPost w r1 r2)
  unfold bound_split.f at h
  split at h
  case isFalse => cases h
  rename_i hh
  obtain ⟨_, hlen, hall⟩ := hh
  have h := Option.some.inj h
  match l1, hlen, hr1, hall, h with
  | [x], _, hr1, hall, h =>
    obtain ⟨ad, rfl, hx⟩ := cell_int hr1 0 (by simp)
    have hx0 : w.cell? ad = some (.int .i32 x) := by rw [← Addr.add_zero' ad]; simpa using hx
    have hb : 0 < x ∧ x < 128 := by simpa using hall
    by_cases h0 : 0 < a0.size
    · obtain ⟨r, d, hnx, hd, h3, h4⟩ := first_of Tryd.prog w a0 h0
      by_cases hq : bt a0 0 = x
      · obtain ⟨rfl, rfl⟩ := h3 (by omega)
        rw [if_pos ⟨h0, by simp [hq]⟩] at h
        obtain ⟨rfl, rfl⟩ := Prod.mk.inj h
        exact split1_yes a0 w ad c1 x hx0 _ _ h0 hnx (beq_iff_eq.mpr hq)
      · rw [if_neg (fun hk => hq (by simpa using hk.2))] at h
        obtain ⟨rfl, rfl⟩ := Prod.mk.inj h
        refine split1_no a0 w ad c1 x hx0 r d hd hnx (beq_eq_false_iff_ne.mpr ?_)
        rcases Int.lt_or_le (bt a0 0) 128 with hlt | hle
        · rw [(h3 hlt).1]; exact hq
        · have := h4 hle; omega
    · rw [if_neg (fun hk => h0 hk.1)] at h
      obtain ⟨rfl, rfl⟩ := Prod.mk.inj h
      exact split1_empty a0 w ad c1 (by omega)
  | [x, y], _, hr1, hall, h =>
    obtain ⟨ad, rfl, hx⟩ := cell_int hr1 0 (by simp)
    obtain ⟨ad', had, hy⟩ := cell_int hr1 1 (by simp)
    obtain rfl := Option.some.inj had
    have hx0 : w.cell? ad = some (.int .i32 x) := by rw [← Addr.add_zero' ad]; simpa using hx
    have hy0 : w.cell? { block := ad.block, off := ad.off + 1 } = some (.int .i32 y) := by rw [← add_one]; simpa using hy
    have hb : (0 < x ∧ x < 128) ∧ 0 < y ∧ y < 128 := by simpa using hall
    by_cases h0 : 0 < a0.size
    · obtain ⟨r, d, hnx, hd, h3, h4⟩ := first_of Tryd.prog w a0 h0
      by_cases hq : bt a0 0 = x
      · obtain ⟨rfl, rfl⟩ := h3 (by omega)
        rw [if_pos ⟨h0, by simp [hq]⟩] at h
        obtain ⟨rfl, rfl⟩ := Prod.mk.inj h
        exact split2_yes a0 w ad c1 x y hx0 hy0 _ _ h0 hnx (beq_iff_eq.mpr hq)
      · by_cases hq2 : bt a0 0 = y
        · obtain ⟨rfl, rfl⟩ := h3 (by omega)
          rw [if_pos ⟨h0, by simp [hq2]⟩] at h
          obtain ⟨rfl, rfl⟩ := Prod.mk.inj h
          exact split2_yes2 a0 w ad c1 x y hx0 hy0 _ _ h0 hnx (beq_eq_false_iff_ne.mpr hq) (beq_iff_eq.mpr hq2)
        · rw [if_neg (fun hk => by have := hk.2; simp [hq, hq2] at this)] at h
          obtain ⟨rfl, rfl⟩ := Prod.mk.inj h
          refine split2_no a0 w ad c1 x y hx0 hy0 r d hd hnx (beq_eq_false_iff_ne.mpr ?_) (beq_eq_false_iff_ne.mpr ?_)
          · rcases Int.lt_or_le (bt a0 0) 128 with hlt | hle
            · rw [(h3 hlt).1]; exact hq
            · have := h4 hle; omega
          · rcases Int.lt_or_le (bt a0 0) 128 with hlt | hle
            · rw [(h3 hlt).1]; exact hq2
            · have := h4 hle; omega
    · rw [if_neg (fun hk => h0 hk.1)] at h
      obtain ⟨rfl, rfl⟩ := Prod.mk.inj h
      exact split2_empty a0 w ad c1 (by omega)
end Go.Proofs.YtegmbgjolnbgpaaDoor.P
