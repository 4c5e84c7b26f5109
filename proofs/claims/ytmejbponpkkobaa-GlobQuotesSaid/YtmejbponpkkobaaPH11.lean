/- Whether a pattern is plain: none of its bytes is one of the four signs. Conditions: that it is at most a million bytes. -/
import Derived.Test.YtmejbponpkkobaaPH10
namespace Go.Proofs.Ytmejbponpkkobaa.P
open Go.RowKit Go.Proofs.YtmejbponpkkobaaW.PrintWords Go.Proofs.YtmejbponpkkobaaW.PrintLast Go.Proofs.YtmejbponpkkobaaW.PrintMore

/-- Is a byte one of the four signs? -/
def signB (b : UInt8) : Bool := sign (b.toNat : Int)
theorem four_contains : ∀ b : UInt8, ([42, 63, 91, 92] : List UInt8).contains b = signB b := by
  intro b
  unfold signB sign
  rw [Bool.eq_iff_iff]
  simp only [List.contains_cons, List.contains_nil, Bool.or_false, Bool.or_eq_true, beq_iff_eq, decide_eq_true_eq]
  constructor
  · rintro (h | h | h | h) <;> subst h <;> simp
  · intro h
    have h2 : b.toNat = 42 ∨ b.toNat = 63 ∨ b.toNat = 91 ∨ b.toNat = 92 := by omega
    rcases h2 with h2 | h2 | h2 | h2
    · exact .inl (UInt8.toNat_inj.1 h2)
    · exact .inr (.inl (UInt8.toNat_inj.1 h2))
    · exact .inr (.inr (.inl (UInt8.toNat_inj.1 h2)))
    · exact .inr (.inr (.inr (UInt8.toNat_inj.1 h2)))
theorem any_bytes : ∀ l : List UInt8, decide (0 ≤ Lib.indexAny l [42, 63, 91, 92]) = l.any signB
  | [] => rfl
  | b :: l => by
    have ih := any_bytes l
    have hge := Lib.indexAny_ge [42, 63, 91, 92] l
    rw [Lib.indexAny, List.any_cons, ← ih, four_contains]
    cases signB b with
    | true => simp
    | false =>
      simp only [Bool.false_eq_true, if_false, Bool.false_or]
      by_cases h : Lib.indexAny l [42, 63, 91, 92] = -1
      · rw [h]; rfl
      · rw [if_neg (by simpa using h)]
        exact decide_eq_decide.2 (by omega)
theorem dec_high (l : List UInt8) (h : 128 ≤ by' l 0) : 128 ≤ (dec l).1 ∧ ∀ k, k < (dec l).2 → 128 ≤ by' l k := by
  have hc : ∀ k, cnt l k = true → 128 ≤ by' l k := fun k hk => by
    unfold cnt at hk
    rw [Bool.and_eq_true, beq_iff_eq] at hk
    have : (l.getD k 0).toNat / 64 = 2 := hk.2
    unfold by'
    omega
  have one : ∀ k, k < 1 → 128 ≤ by' l k := fun k hk => by
    obtain rfl : k = 0 := by omega
    exact h
  have err : 128 ≤ Utf8.runeError := by decide
  unfold dec
  rw [if_neg (by omega)]
  split
  · rename_i h1
    rw [Bool.and_eq_true] at h1
    have := hc 1 h1.2
    split
    · rename_i h2
      refine ⟨h2, fun k hk => ?_⟩
      simp only at hk
      have : k = 0 ∨ k = 1 := by omega
      rcases this with rfl | rfl <;> assumption
    · exact ⟨err, one⟩
  · split
    · rename_i h1
      rw [Bool.and_eq_true, Bool.and_eq_true] at h1
      have a1 := hc 1 h1.1.2
      have a2 := hc 2 h1.2
      split
      · rename_i h2
        rw [Bool.and_eq_true, decide_eq_true_eq] at h2
        refine ⟨by have := h2.1; simp only; omega, fun k hk => ?_⟩
        simp only at hk
        have : k = 0 ∨ k = 1 ∨ k = 2 := by omega
        rcases this with rfl | rfl | rfl <;> assumption
      · exact ⟨err, one⟩
    · split
      · rename_i h1
        rw [Bool.and_eq_true, Bool.and_eq_true, Bool.and_eq_true] at h1
        have a1 := hc 1 h1.1.1.2
        have a2 := hc 2 h1.1.2
        have a3 := hc 3 h1.2
        split
        · rename_i h2
          rw [Bool.and_eq_true, decide_eq_true_eq] at h2
          refine ⟨by have := h2.1; simp only; omega, fun k hk => ?_⟩
          simp only at hk
          have : k = 0 ∨ k = 1 ∨ k = 2 ∨ k = 3 := by omega
          rcases this with rfl | rfl | rfl | rfl <;> assumption
        · exact ⟨err, one⟩
      · exact ⟨err, one⟩
theorem any_runes : ∀ (n : Nat) (l : List UInt8), l.length ≤ n → (rL l).any sign = l.any signB
  | _, [], _ => rfl
  | 0, _ :: _, h => by simp at h
  | n + 1, x :: t, h => by
    have h1 := dec_le (x :: t) (by simp)
    have ih := any_runes n ((x :: t).drop (dec (x :: t)).2) (by rw [List.length_drop]; simp at h ⊢; omega)
    rw [rL_cons, List.any_cons, ih]
    by_cases hx : x.toNat < 128
    · have : dec (x :: t) = (x.toNat, 1) := by unfold dec; rw [if_pos (by exact hx)]; rfl
      rw [this]
      rfl
    · obtain ⟨h2, h3⟩ := dec_high (x :: t) (by show 128 ≤ x.toNat; omega)
      rw [sign_high _ (by omega), Bool.false_or]
      conv => rhs; rw [← List.take_append_drop (dec (x :: t)).2 (x :: t), List.any_append]
      have : ((x :: t).take (dec (x :: t)).2).any signB = false := by
        rw [List.any_eq_false]
        intro y hy
        obtain ⟨k, hk, rfl⟩ := List.mem_iff_getElem.1 hy
        rw [List.length_take] at hk
        have h4 := h3 k (by omega)
        rw [List.getElem_take]
        have h5 : by' (x :: t) k = ((x :: t)[k]'(by omega)).toNat := by
          unfold by'
          rw [List.getD_eq_getElem?_getD, List.getElem?_eq_getElem (by omega)]
          rfl
        rw [h5] at h4
        unfold signB
        rw [sign_high _ (by omega)]
        simp
      rw [this, Bool.false_or]
theorem info73 : (Try.prog.info? 73).map (fun i => (i.zero, i.size)) = some (some (.agg (Array.replicate 256 (.bool false))), 256) := by kernel_rfl
theorem any_long (s : ByteArray) (h8 : 8 < s.size) (hs : s.size ≤ 1000000) (w : World) : Calls Try.prog 35 #[.string s, .string four] w fun e w' => (∃ i : Int, e = .returned (.int .i64 i) ∧ decide (0 ≤ i) = s.data.toList.any signB) ∧ Below w.heap.size w w' := by
  refine (Try.strings_IndexAny_long (zero_of_info info73).1 s four w (by decide) h8 (by omega) (by decide) (fun j b hj => ?_)).mono ?_
  · have hm : b ∈ ([42, 63, 91, 92] : List UInt8) := List.mem_of_getElem? hj
    have : ∀ z, z ∈ ([42, 63, 91, 92] : List UInt8) → z.toNat < 128 := by decide
    exact this b hm
  · rintro e w' ⟨rfl, rfl⟩
    exact ⟨⟨_, rfl, any_bytes _⟩, below_alloc (below_alloc (Below.refl _ _) _) _⟩
set_option maxHeartbeats 4000000 in
set_option maxRecDepth 100000 in
theorem any_short (s : ByteArray) (h8 : s.size ≤ 8) (w : World) : Calls Try.prog 35 #[.string s, .string four] w fun e w' => (∃ i : Int, e = .returned (.int .i64 i) ∧ decide (0 ≤ i) = s.data.toList.any signB) ∧ Below w.heap.size w w' := by
  have HN := Aside0.mk (any_runes _ s.data.toList (Nat.le_refl _))
  rw [← runes_rL] at HN
  have hrl := runes_len s
  have hf4 : four.size = 4 := rfl
  have hf0 : four.toList.isEmpty = false := by rw [ByteArray.toList_eq]; rfl
  have h8z : (s.size : Int) ≤ 8 := by omega
  go_enter Try.func35, Try.ntmps35
  go_wp2
  go_loopg [9, 10] (runes s).length (fun gg s9 s10 wr => ∃ (j pos fuel : Nat), (runes s).length - j ≤ gg ∧ Aside0 (At s w j pos fuel wr) ∧ Aside0 (((runes s).take j).any sign = false))
  case atStart => exact ⟨0, 0, s.size, by omega, ⟨⟨Nat.zero_le _, by simp [World.iter_heap], below_alloc (Below.refl _ _) _, rfl, by omega⟩⟩, ⟨rfl⟩⟩
  case round =>
    obtain ⟨j, pos, fuel, hg, HA, HT⟩ := hrel
    by_cases hp : pos < s.size
    · have hnx : ∀ ty, (Instr.next (.pointer (some ⟨w.heap.size, 0, none⟩)) true ty).run Try.prog wr = _ := fun ty => Lib.run_next_any_at wr w.heap.size s pos ty HA.out.it hp
      obtain ⟨f, rfl, hd, hlt, hA⟩ := HA.out.step hp
      have HA1 := Aside0.mk hA
      clear hA
      obtain ⟨r, hr⟩ : ∃ r : Int, r = ((Utf8.decode s pos).1 : Int) := ⟨_, rfl⟩
      have hr0 : 0 ≤ r := by omega
      rw [← hr] at hnx hd
      have Hr := Aside0.mk hr
      clear hr
      have hat : (runes s)[j]'hlt = r := by
        have := hd
        rw [List.drop_eq_getElem_cons hlt] at this
        injection this
      have HT2 : ((runes s).take (j + 1)).any sign = sign r := by
        rw [List.take_succ_eq_append_getElem hlt, List.any_append, HT.out, hat]
        simp
      have HT3 := Aside0.mk HT2
      clear hd hat HT2
      go_wp2_with fail
      refine (index_rune r hr0 _).mono ?_
      rintro e w2 ⟨⟨i, rfl, hi⟩, hb⟩
      cases hsg : sign r with
      | true =>
        rw [hsg] at hi
        have hi0 : 0 ≤ i := of_decide_eq_true hi
        clear hi
        go_wp2
        go_ret
        refine ⟨⟨(pos : Int), rfl, ?_⟩, more_below HA1.out.bel hb⟩
        rw [← HN.out, decide_eq_true (by omega : (0 : Int) ≤ (pos : Int))]
        have h1 := HT3.out
        rw [hsg] at h1
        rw [← List.take_append_drop (j + 1) (runes s), List.any_append, h1, Bool.true_or]
      | false =>
        rw [hsg] at hi
        have hi0 : ¬ 0 ≤ i := of_decide_eq_false hi
        clear hi
        go_wp2
        go_roundg ((runes s).length - (j + 1))
        case measure => omega
        case rel => exact ⟨j + 1, pos + (Utf8.decode s pos).2, f, by omega, ⟨HA1.out.below hb⟩, ⟨by rw [HT3.out, hsg]⟩⟩
    · have hnx : ∀ ty, (Instr.next (.pointer (some ⟨w.heap.size, 0, none⟩)) true ty).run Try.prog wr = _ := fun ty => Lib.run_next_end_at wr w.heap.size s pos ty HA.out.it hp
      have hO := HA.out.stop hp
      have HO := Aside0.mk hO
      clear hO
      go_wp2
      go_ret
      refine ⟨⟨-1, rfl, ?_⟩, HA.out.bel⟩
      rw [← HN.out]
      have h1 := List.take_append_drop j (runes s)
      rw [HO.out, List.append_nil] at h1
      have h2 := HT.out
      rw [h1] at h2
      rw [h2]
      rfl
theorem contains_any (s : ByteArray) (hs : s.size ≤ 1000000) (w : World) : Calls Try.prog 24 #[.string s, .string four] w fun e w' => e = .returned (.bool (s.data.toList.any signB)) ∧ Below w.heap.size w w' := by
  have key : Calls Try.prog 35 #[.string s, .string four] w fun e w' => (∃ i : Int, e = .returned (.int .i64 i) ∧ decide (0 ≤ i) = s.data.toList.any signB) ∧ Below w.heap.size w w' := by
    rcases Nat.lt_or_ge 8 s.size with h | h
    · exact any_long s h hs w
    · exact any_short s h w
  generalize s.data.toList.any signB = B at key ⊢
  go_enter Try.func24, Try.ntmps24
  go_wp2_with fail
  refine key.mono ?_
  rintro e w1 ⟨⟨i, rfl, hi⟩, hb⟩
  go_wp2
  go_ret
  exact ⟨by rw [← hi]; rfl, hb⟩
def glob_Plain.f (s : ByteArray) : Option Bool := if s.size ≤ 1000000 then some (!s.data.toList.any signB) else none
theorem glob_Plain.calls (s : ByteArray) (r : Bool) (w : World) (h : glob_Plain.f s = some r) : Calls Try.prog 13 #[.string s] w fun e w' => e = .returned (.bool r) ∧ Below w.heap.size w w' := by
  unfold glob_Plain.f at h
  by_cases hs : s.size ≤ 1000000
  · rw [if_pos hs] at h
    obtain rfl := Option.some.inj h
    have key := contains_any s hs
    generalize s.data.toList.any signB = B at key ⊢
    go_enter Try.func13, Try.ntmps13
    go_wp2_with fail
    refine (key _).mono ?_
    rintro e w1 ⟨rfl, hb⟩
    go_wp2
    go_ret
    exact ⟨rfl, hb⟩
  · rw [if_neg hs] at h
    cases h
end Go.Proofs.Ytmejbponpkkobaa.P
